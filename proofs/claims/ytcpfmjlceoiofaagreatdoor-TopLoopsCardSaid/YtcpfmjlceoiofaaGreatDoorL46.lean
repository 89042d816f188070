/-
  Joined texts; each begins with its own sentence.
-/
import Derived.Test.YtcpfmjlceoiofaaGreatDoorL45
import Derived.Test.YtcpfmjlceoiofaaGreatDoorL36
set_option linter.unusedSimpArgs false
set_option linter.unusedVariables false
set_option linter.unusedSectionVars false
/-
  The law TopLoops: what it needs ahead of its loop.
-/
namespace Go.Proofs.YtcpfmjlceoiofaaGreatDoor
open Go.RowKit
section rules
variable {X : Cx} {Q : PostT} {l : St} {ds : List Deferred} {H : Hp} {ops : Array Oper} {rest : List Oper}
variable {d ty : Nat} {pos : String} {after : Array Edge}
/-- a load from a block that lies somewhere in the heap -/
theorem P_loadM {x : Operand} {t b o : Nat} [T : Ty X.P t 1 false] {C : Array Value} {E : TypeId} {fr : Nat × Nat} {v : Value} (hx : ev l x = some (.pointer (some ⟨b, o, none⟩))) (hm : (b, Blk.oth (.cells C E fr)) ∈ H) (hv : C.toList[o]? = some v) :
    PureOp X H l { dst := some d, op := .load t x, type := ty, pos, after, guard := none } v := by
  obtain ⟨R, hp⟩ := pull_of_mem hm
  exact P_load1o hx hp hv
end rules
open Go.RowKit
attribute [local irreducible] W L QL PureOp thenQ blockQ retQ Spec IterOk YSpec roundQ scopeQ noGoQ
attribute [local irreducible] AS ASi IterOkC retD retE
set_option maxHeartbeats 12800000
set_option maxRecDepth 8000
/-- a kernel, and blocks that were handed in -/
theorem Spec.kb {f : FuncId} {args : List Value} {σ : KS} {w : Value} {P : KS → Prop} (h : Spec Tryz.prog f args (kH σ) fun v H' => v = w ∧ ∃ σ', P σ' ∧ H' = kH σ') {Bs K : Hp} (hK : K = kH σ ++ Bs) :
    Spec Tryz.prog f args K fun v H' => v = w ∧ ∃ σ' K', P σ' ∧ K' = kH σ' ++ Bs ∧ H' = K' := by
  subst hK
  refine (h.frame Bs).mono ?_
  rintro v H' ⟨H1, ⟨h1, σ', h2, rfl⟩, rfl⟩
  exact ⟨h1, σ', _, h2, rfl, rfl⟩
theorem kleftK {σ : KS} (hM : WfM σ.M) {Bs K : Hp} (hK : K = kH σ ++ Bs) : Spec Tryz.prog 10 [ptrB σ.k] K fun v H' => v = .int .i64 (leftM σ.M : Int) ∧ H' = K := by
  have p : K.Perm ((knB σ :: memH σ.m σ.M) ++ (tbB σ.pr σ.mb σ.last :: kvB σ.mb σ.L σ.c :: flB σ.fr σ.fm σ.fc :: rmB σ.fm σ.R σ.rc :: tmB σ.tm σ.T σ.tc :: (kZ σ.L σ.R σ.T σ.E ++ Bs))) := by
    subst hK
    simp only [List.cons_append, List.nil_append, List.append_assoc]
    exact permA
  refine Spec.perm p (((kleft_spec σ hM).frame _).permR ?_)
  rintro v H1 ⟨H2, ⟨rfl, rfl⟩, rfl⟩
  exact ⟨K, ⟨rfl, rfl⟩, p.symm⟩
theorem kpidsK {σ : KS} (hw : WfK σ) (hup : (pidsP σ.L).Pairwise (· < ·)) {Bs K : Hp} (hK : K = kH σ ++ Bs) : Spec Tryz.prog 12 [ptrB σ.k] K fun v H' => ∃ a cap K', v = .slice a σ.L.length cap ∧ H' = Bs ++ K' := by
  subst hK
  refine ((kpids_spec σ hw hup).frame Bs).permR ?_
  rintro v H1 ⟨H2, ⟨a, cap, Hs, rfl, -, rfl⟩, rfl⟩
  exact ⟨_, ⟨a, cap, kH σ ++ Hs, rfl, rfl⟩, List.perm_append_comm⟩
/-! ### one process and a child of it -/
abbrev kidP (pid : Int) : PR := ⟨pid, 1, 1, 0, 0, [], 0, false⟩
abbrev LK (b b1 w1 : Nat) (x : PR) : List PE := [⟨b, 0, newP⟩, ⟨b1, w1, x⟩]
theorem find_one (b b1 w1 : Nat) (x : PR) : findP (LK b b1 w1 x) 1 = some ⟨b, 0, newP⟩ := rfl
theorem find_kid (b b1 w1 : Nat) {x : PR} {pid : Int} (hx : x.pid = pid) (h : 2 ≤ pid) : findP (LK b b1 w1 x) pid = some ⟨b1, w1, x⟩ := by
  have h1 : ¬ pid = 1 := by omega
  simp only [findP]
  rw [if_neg h1, if_pos hx.symm]
theorem set_kid (b b1 w1 : Nat) {x y : PR} {pid : Int} (hx : x.pid = pid) (h : 2 ≤ pid) : setP (LK b b1 w1 x) pid y = LK b b1 w1 y := by
  have h1 : ¬ pid = 1 := by omega
  simp only [setP]
  rw [if_neg h1, if_pos hx.symm]
theorem orphan_kid (b b1 w1 : Nat) {x : PR} {pid : Int} (hx : x.parent = 1) (h : 2 ≤ pid) : mapP (LK b b1 w1 x) (orphan pid) = LK b b1 w1 x := by
  have h0 : ¬ (0 : Int) = pid := by omega
  have h1 : ¬ x.parent = pid := by omega
  simp only [mapP, List.map_cons, List.map_nil, orphan]
  rw [if_neg h0, if_neg h1]
theorem wait_kid (b b1 w1 : Nat) {x : PR} (hx : x.parent = 1) (hs : x.state = 3) (h : 2 ≤ x.pid) : waitZ (LK b b1 w1 x) 1 = some ⟨b1, w1, x⟩ := by
  have e : inOrder (LK b b1 w1 x) = LK b b1 w1 x := inOrder_up (by
    show List.Pairwise (· < ·) [(1 : Int), x.pid]
    simp
    omega)
  rw [waitZ, e]
  simp [List.find?, isDead, hx, hs]
theorem del_kid (b b1 w1 : Nat) {x : PR} (h : 2 ≤ x.pid) : delP (LK b b1 w1 x) x.pid = [⟨b, 0, newP⟩] := by
  have h1 : ¬ x.pid = 1 := by omega
  simp only [delP]
  rw [if_neg h1, if_true]
theorem growM_zero (M : List Frm) (root : Int) : growM M root 1 0 0 = (0, M) := by
  rw [growM, if_neg (by decide)]
  rfl
theorem and7 (a : Int) : 0 ≤ bits .and .i64 a 7 ∧ bits .and .i64 a 7 ≤ 7 := by
  have h : (BitVec.ofInt 64 a &&& BitVec.ofInt 64 7).toNat ≤ 7 := by rw [BitVec.toNat_and]; exact Nat.and_le_right
  have e : bits .and .i64 a 7 = IntKind.i64.wrap ((BitVec.ofInt 64 a &&& BitVec.ofInt 64 7).toNat : Int) := rfl
  rw [e, wrap_i64 (by omega)]
  omega
theorem and255 (a : Int) : 0 ≤ bits .and .i64 a 255 ∧ bits .and .i64 a 255 ≤ 255 := by
  have h : (BitVec.ofInt 64 a &&& BitVec.ofInt 64 255).toNat ≤ 255 := by rw [BitVec.toNat_and]; exact Nat.and_le_right
  have e : bits .and .i64 a 255 = IntKind.i64.wrap ((BitVec.ofInt 64 a &&& BitVec.ofInt 64 255).toNat : Int) := rfl
  rw [e, wrap_i64 (by omega)]
  omega
/-- between two rounds -/
structure Calm (σ : KS) (k b : Nat) (i : Nat) : Prop where
  wf : WfK σ
  k : σ.k = k
  M : usedM σ.M = usedM M0
  L : σ.L = [⟨b, 0, newP⟩]
  last : σ.last = 1 + (i : Int)
  sp : spOf σ 1 = some q0
  E : ∃ q, 0 ≤ q ∧ q ≤ 4095 ∧ σ.E = [slK σ.pi q none false slZ]
  fc : σ.fc = 0
/-- a child is there, which may have grown -/
structure Kid (σ : KS) (k b b1 w1 : Nat) (i : Nat) (heap : Nat) : Prop where
  wf : WfK σ
  k : σ.k = k
  L : σ.L = LK b b1 w1 (kidP (2 + (i : Int)))
  last : σ.last = 2 + (i : Int)
  sp : spOf σ 1 = some q0
  sp2 : spOf σ (2 + (i : Int)) = some ⟨r1, ((spanN 0 : Nat) : Int), ((spanN 64 : Nat) : Int), (heap : Int), []⟩
  E : ∃ q, 0 ≤ q ∧ q ≤ 4095 ∧ σ.E = [slK σ.pi q none false slZ]
  fc : σ.fc = 0
  row : (findG σ.R (2 + (i : Int))).isSome = true
  M : usedM (sdropM σ.M r1).2 = usedM M0
theorem calm_fork {σ : KS} {k b i : Nat} (h : Calm σ k b i) (hi : i < 30) : Spec Tryz.prog 11 [ptrB k, .int .i64 1, .agg (cV 1 0).cells.toArray] (kH σ) fun v H' => v = RS.val ⟨0, 2 + (i : Int), 0, [], false⟩ ∧
    ∃ σ', (∃ b1 w1, Kid σ' k b b1 w1 i 0 ∧ σ'.M = (forkM σ.M r0).2.2) ∧ H' = kH σ' := by
  have hr := round_ok h.M 0 (by omega)
  have hlast := h.last
  have e2 : σ.last + 1 = 2 + (i : Int) := by omega
  rw [← h.k]
  refine (step_fork σ h.wf 1 (p := ⟨b, 0, newP⟩) (s := q0) (by rw [h.L]; rfl) rfl h.sp hr.fork (by rw [h.L]; show 1 < 16; decide) (by omega)).mono ?_
  rintro v H' ⟨rfl, σ', b1, w, kp, hM, hL, hl, hsp, hrow, rfl⟩
  rw [e2] at hl hsp hrow ⊢
  rw [h.L] at hL
  have hg : growM (forkM σ.M r0).2.2 r1 1 0 0 = (0, (forkM σ.M r0).2.2) := growM_zero _ _
  refine ⟨rfl, σ', ⟨b1, σ.c, ⟨w, kp.k, ?_, hl, ?_, ?_, ?_, kp.fc.trans h.fc, hrow, ?_⟩, hM⟩, rfl⟩
  · rw [hL]
    show [_, _] = [_, _]
    congr 1
    congr 1
    simp only [childP, kidP, e2]
  · rw [hsp, if_neg (by omega)]; exact h.sp
  · rw [hsp, if_pos rfl, show (forkM σ.M q0.root).2.1 = r1 from hr.root]
    rfl
  · obtain ⟨q, h1, h2, h3⟩ := h.E
    exact ⟨q, h1, h2, by rw [kp.E, kp.pi]; exact h3⟩
  · have := hr.same
    rw [show ((0 : Nat) : Int) = 0 from rfl, hg] at this
    rw [hM]
    exact this
theorem kid_grow {σ : KS} {k b b1 w1 i : Nat} (h : Kid σ k b b1 w1 i 0) {M : List Frm} (hM0 : usedM M = usedM M0) (hM : σ.M = (forkM M r0).2.2) (n : Nat) (hn : n < 8) :
    Spec Tryz.prog 11 [ptrB k, .int .i64 (2 + (i : Int)), .agg (cV 7 (n : Int)).cells.toArray] (kH σ) fun v H' => v = RS.val ⟨0, 64, 0, [], false⟩ ∧ ∃ σ', Kid σ' k b b1 w1 i n ∧ H' = kH σ' := by
  have hr := round_ok hM0 n hn
  have hgr := hr.grow
  have hsm := hr.same
  rw [← hM] at hgr hsm
  rw [← h.k]
  have hp := find_kid b b1 w1 (x := kidP (2 + (i : Int))) (pid := 2 + (i : Int)) rfl (by omega)
  rw [← h.L] at hp
  refine (step_grow σ h.wf (2 + (i : Int)) (n : Int) (root := r1) (text := spanN 0) (data := spanN 64) (heap := 0) hp rfl h.sp2 (by decide) ⟨by omega, by omega⟩ hgr).mono ?_
  rintro v H' ⟨rfl, σ', w, kp, hM', hL, hl, hR, hsp, rfl⟩
  refine ⟨rfl, σ', ⟨w, kp.k, hL.trans h.L, hl.trans h.last, ?_, ?_, ?_, kp.fc.trans h.fc, ?_, ?_⟩, rfl⟩
  · rw [hsp, if_neg (by omega)]; exact h.sp
  · rw [hsp, if_pos rfl]
    congr 2
    omega
  · obtain ⟨q, h1, h2, h3⟩ := h.E
    exact ⟨q, h1, h2, by rw [kp.E, kp.pi]; exact h3⟩
  · rw [hR]; exact h.row
  · rw [hM']; exact hsm
end Go.Proofs.YtcpfmjlceoiofaaGreatDoor

/-
  The law TopLoops: pipe, end, wait; its loop.
-/
namespace Go.Proofs.YtcpfmjlceoiofaaGreatDoor
open Go.RowKit
attribute [local irreducible] W L QL PureOp thenQ blockQ retQ Spec IterOk YSpec roundQ scopeQ noGoQ
attribute [local irreducible] AS ASi IterOkC retD retE
set_option maxHeartbeats 25600000
set_option maxRecDepth 8000
/-- a child that has a pipe -/
structure Piped (σ : KS) (k b b1 w1 : Nat) (i : Nat) (heap : Nat) : Prop where
  wf : WfJ σ
  pipe : ∃ q pb rb f0 f1, 0 ≤ q ∧ q ≤ 4095 ∧ PipeAt σ (2 + (i : Int)) q slZ [] pb rb f0 f1
  k : σ.k = k
  L : σ.L = LK b b1 w1 (kidP (2 + (i : Int)))
  last : σ.last = 2 + (i : Int)
  sp : spOf σ 1 = some q0
  sp2 : spOf σ (2 + (i : Int)) = some ⟨r1, ((spanN 0 : Nat) : Int), ((spanN 64 : Nat) : Int), (heap : Int), []⟩
  M : usedM (sdropM σ.M r1).2 = usedM M0
/-- a child that has ended -/
structure Dead (σ : KS) (k b : Nat) (i : Nat) (st : Int) : Prop where
  wf : WfK σ
  k : σ.k = k
  L : ∃ b1 w1 x, σ.L = LK b b1 w1 x ∧ x.pid = 2 + (i : Int) ∧ x.parent = 1 ∧ x.state = 3 ∧ x.status = st
  last : σ.last = 2 + (i : Int)
  sp : spOf σ 1 = some q0
  E : ∃ q, 0 ≤ q ∧ q ≤ 4095 ∧ σ.E = [slK σ.pi q none false slZ]
  fc : σ.fc = 0
  M : usedM σ.M = usedM M0
theorem nextQ_in {q : Int} (h : 0 ≤ q ∧ q ≤ 4095) : 0 ≤ nextQ q ∧ nextQ q ≤ 4095 := by
  unfold nextQ
  split <;> omega
theorem kid_pipe {σ : KS} {k b b1 w1 i n : Nat} (h : Kid σ k b b1 w1 i n) :
    Spec Tryz.prog 11 [ptrB k, .int .i64 (2 + (i : Int)), .agg (cV 10 0).cells.toArray] (kH σ) fun v H' => v = RS.val ⟨0, 0, 1, [], false⟩ ∧ ∃ σ', Piped σ' k b b1 w1 i n ∧ H' = kH σ' := by
  obtain ⟨q, hq1, hq2, hE⟩ := h.E
  have hp := find_kid b b1 w1 (x := kidP (2 + (i : Int))) (pid := 2 + (i : Int)) rfl (by omega)
  rw [← h.L] at hp
  rw [← h.k]
  refine (step_pipe σ h.wf (2 + (i : Int)) hp rfl h.sp2 ⟨hq1, hq2⟩ hE h.fc h.row).mono ?_
  rintro v H' ⟨rfl, σ', pb, rb, f0, f1, w, hpi, hk, -, hM, hL, hl, hsp, rfl⟩
  exact ⟨rfl, σ', ⟨w, ⟨q, pb, rb, f0, f1, hq1, hq2, hpi⟩, hk, hL.trans h.L, hl.trans h.last, (hsp 1).trans h.sp, (hsp _).trans h.sp2, by rw [hM]; exact h.M⟩, rfl⟩
theorem piped_exit {σ : KS} {k b b1 w1 i n : Nat} (h : Piped σ k b b1 w1 i n) (st : Int) (hst : 0 ≤ st ∧ st ≤ 255) :
    Spec Tryz.prog 11 [ptrB k, .int .i64 (2 + (i : Int)), .agg (cV 3 st).cells.toArray] (kH σ) fun v H' => v = rs0.val ∧ ∃ σ', Dead σ' k b i st ∧ H' = kH σ' := by
  obtain ⟨q, pb, rb, f0, f1, hq1, hq2, hpi⟩ := h.pipe
  have hp := find_kid b b1 w1 (x := kidP (2 + (i : Int))) (pid := 2 + (i : Int)) rfl (by omega)
  rw [← h.L] at hp
  rw [← h.k]
  refine (step_exit2 σ h.wf (2 + (i : Int)) st hp rfl h.sp2 hst (by omega) ⟨hq1, hq2⟩ hpi).mono ?_
  rintro v H' ⟨rfl, σ', w, hk, hpi2, hE, hfc, hM, hL, hl, hsp, rfl⟩
  refine ⟨rfl, σ', ⟨w, hk, ⟨b1, w1, endedP (kidP (2 + (i : Int))) st, ?_, rfl, rfl, rfl, rfl⟩, hl.trans h.last, (hsp 1).trans h.sp, ⟨nextQ q, (nextQ_in ⟨hq1, hq2⟩).1, (nextQ_in ⟨hq1, hq2⟩).2, by rw [hE, hpi2]⟩, hfc, by rw [hM]; exact h.M⟩, rfl⟩
  rw [hL, h.L, set_kid b b1 w1 (x := kidP (2 + (i : Int))) (pid := 2 + (i : Int)) rfl (by omega), orphan_kid b b1 w1 rfl (by omega)]
theorem piped_kill {σ : KS} {k b b1 w1 i n : Nat} (h : Piped σ k b b1 w1 i n) (hi : i < 30) :
    Spec Tryz.prog 11 [ptrB k, .int .i64 1, .agg (cV 5 (2 + (i : Int))).cells.toArray] (kH σ) fun v H' => v = rs0.val ∧ ∃ σ', Dead σ' k b i 137 ∧ H' = kH σ' := by
  obtain ⟨q, pb, rb, f0, f1, hq1, hq2, hpi⟩ := h.pipe
  have hp := find_kid b b1 w1 (x := kidP (2 + (i : Int))) (pid := 2 + (i : Int)) rfl (by omega)
  rw [← h.L] at hp
  rw [← h.k]
  refine (step_kill2 σ h.wf 1 (2 + (i : Int)) (pm := ⟨b, 0, newP⟩) (by rw [h.L]; rfl) rfl rfl h.sp (by omega) ⟨by omega, by omega⟩ hp rfl h.sp2 (by omega) ⟨hq1, hq2⟩ hpi).mono ?_
  rintro v H' ⟨rfl, σ', w, hk, hpi2, hE, hfc, hM, hL, hl, hsp, rfl⟩
  refine ⟨rfl, σ', ⟨w, hk, ⟨b1, w1, endedP (killedP (kidP (2 + (i : Int)))) 137, ?_, rfl, rfl, rfl, rfl⟩, hl.trans h.last, (hsp 1).trans h.sp, ⟨nextQ q, (nextQ_in ⟨hq1, hq2⟩).1, (nextQ_in ⟨hq1, hq2⟩).2, by rw [hE, hpi2]⟩, hfc, by rw [hM]; exact h.M⟩, rfl⟩
  rw [hL, h.L, set_kid b b1 w1 (x := kidP (2 + (i : Int))) (pid := 2 + (i : Int)) rfl (by omega), set_kid b b1 w1 (x := killedP (kidP (2 + (i : Int)))) (pid := 2 + (i : Int)) rfl (by omega), orphan_kid b b1 w1 rfl (by omega)]
theorem dead_wait {σ : KS} {k b i : Nat} {st : Int} (h : Dead σ k b i st) :
    Spec Tryz.prog 11 [ptrB k, .int .i64 1, .agg (cV 4 0).cells.toArray] (kH σ) fun v H' => v = RS.val ⟨0, 2 + (i : Int), st, [], false⟩ ∧ ∃ σ', Calm σ' k b (i + 1) ∧ H' = kH σ' := by
  obtain ⟨b1, w1, x, hL, h1, h2, h3, h4⟩ := h.L
  rw [← h.k]
  refine (step_wait σ h.wf 1 (p := ⟨b, 0, newP⟩) (z := ⟨b1, w1, x⟩) (by rw [hL]; rfl) rfl h.sp (by rw [hL]; exact wait_kid b b1 w1 h2 h3 (by omega)) (by show x.pid ≠ 1; omega)).mono ?_
  rintro v H' ⟨rfl, σ', w, kp, hM, hL2, hl, hsp, rfl⟩
  simp only at hL2 hsp ⊢
  rw [h1, h4]
  refine ⟨rfl, σ', ⟨w, kp.k, by rw [hM]; exact h.M, ?_, ?_, ?_, ?_, kp.fc.trans h.fc⟩, rfl⟩
  · rw [hL2, hL]; exact del_kid b b1 w1 (by omega)
  · rw [hl, h.last]; omega
  · rw [hsp 1 (by omega)]; exact h.sp
  · obtain ⟨q, e1, e2, e3⟩ := h.E
    exact ⟨q, e1, e2, by rw [kp.E, kp.pi]; exact e3⟩
/-- a slice of numbers that was handed in -/
def RdI (Bs : Hp) (p : Option Addr) (n : Nat) : Prop := ∀ i, i < n → ∃ g o C E fr x, p = some ⟨g, o, none⟩ ∧ (g, Blk.oth (.cells C E fr)) ∈ Bs ∧ C.toList[o + i]? = some (.int .i64 x)
/-- a slice of booleans that was handed in -/
def RdB (Bs : Hp) (p : Option Addr) (n : Nat) : Prop := ∀ i, i < n → ∃ g o C E fr x, p = some ⟨g, o, none⟩ ∧ (g, Blk.oth (.cells C E fr)) ∈ Bs ∧ C.toList[o + i]? = some (.bool x)
theorem loops_spec (Bs : Hp) (p1 p2 p3 : Option Addr) (n1 c1 n2 c2 n3 c3 : Nat) (hn : n1 ≤ 9223372036854775807 ∧ n2 ≤ 9223372036854775807 ∧ n3 ≤ 9223372036854775807) (h1 : RdI Bs p1 n1) (h2 : RdI Bs p2 n2) (h3 : RdB Bs p3 n3) :
    Spec Tryz.prog 3 [.slice p1 n1 c1, .slice p2 n2 c2, .slice p3 n3 c3] Bs fun v H' => v = .bool true ∧ H' = Bs := by
  obtain ⟨hn1, hn2, hn3⟩ := hn
  refine Spec_body Tryz.func3 rfl Tryz.ntmps3 rfl (fun w0 => ?_)
  repeat (first | refine stepA ?_ | intro _)
  refine callT ?_; refine ⟨_, _, shown_spec, _, cutT, ?_⟩
  rintro v H' ⟨rfl, rfl⟩
  rw [List.append_nil]
  repeat (first | refine stepA ?_ | intro _)
  refine callT ?_; refine ⟨_, _, booted2_spec, _, cutT, ?_⟩
  rintro v H' ⟨σ, b, rfl, hw, hM, hL, hlast, hs1, hE, hfc, rfl⟩
  obtain ⟨K, hK⟩ : ∃ K, K = kH σ ++ Bs := ⟨_, rfl⟩
  refine L_perm (H' := K) (by rw [hK]; exact List.perm_append_comm) ?_
  obtain ⟨k, hk⟩ : ∃ k, σ.k = k := ⟨_, rfl⟩
  have hcalm : Calm σ k b 0 := ⟨hw, hk, by rw [hM], hL, by rw [hlast]; rfl, hs1, ⟨0, by omega, by omega, hE⟩, hfc⟩
  have hl0 := kleftK hw.M hK
  rw [hM, hk] at hl0
  rw [hk]
  repeat (first | refine stepA ?_ | intro _)
  refine callT ?_; refine ⟨_, _, hl0, _, cutT, ?_⟩
  rintro v H' ⟨rfl, rfl⟩
  simp only [List.nil_append]
  repeat (first | refine stepA ?_ | intro _)
  refine W_loop (fun x : Nat × KS × Hp => [(0, .slice p1 n1 c1), (1, .slice p2 n2 c2), (2, .slice p3 n3 c3), (7, .bool true), (8, ptrB k), (9, .bool true), (10, .int .i64 (leftM M0 : Int)), (11, .int .i64 (x.1 : Int))]) (fun x => x.2.2) (fun x => x.1 ≤ 30 ∧ x.1 ≤ n1 ∧ Calm x.2.1 k b x.1 ∧ x.2.2 = kH x.2.1 ++ Bs) (fun x => 30 - x.1) (0, σ, H') ⟨by omega, by omega, hcalm, hK⟩ sublA (Sub.refl _) ?_
  rintro ⟨i, σi, Ki⟩ ⟨hi30, hin, hc, hKi⟩
  simp only at hi30 hin hc hKi ⊢
  by_cases hA : i < n1 ∧ i < 30
  · obtain ⟨hA1, hA2⟩ := hA
    obtain ⟨g1, o1, C1, E1, fr1, x1, rfl, hm1, hx1⟩ := h1 i hA1
    repeat (first | refine stepA ?_ | intro _)
    refine callT ?_; refine ⟨_, _, (calm_fork hc hA2).kb hKi, _, cutT, ?_⟩
    rintro v K1 ⟨rfl, σ1, _, ⟨b1, w1, hkid, hM1⟩, hK1, rfl⟩
    simp only [List.nil_append]
    repeat (first | refine stepA ?_ | intro _)
    rename_i b12
    have hmK1 : (g1, Blk.oth (.cells C1 E1 fr1)) ∈ K1 := by rw [hK1]; exact List.mem_append_right _ hm1
    refine L_P rfl rfl (P_loadM (v := .int .i64 x1) (ev_of rfl rfl) (by repeat (first | exact hmK1 | apply List.mem_cons_of_mem)) (by have := hx1; simp at this ⊢; exact this)) ?_
    obtain ⟨st, hst⟩ : ∃ st, bits .and .i64 x1 255 = st := ⟨_, rfl⟩
    have hstr := and255 x1
    rw [hst] at hstr
    (first | (apply L_P; (· exact rfl); (· exact rfl)) | (apply QL_P; (· exact rfl))); (· (apply P_and; (· exact evA); (· exact evA); (· exact hst)))
    by_cases hB : i < n2
    · obtain ⟨g2, o2, C2, E2, fr2, x2, rfl, hm2, hx2⟩ := h2 i hB
      have hmK2 : (g2, Blk.oth (.cells C2 E2 fr2)) ∈ K1 := by rw [hK1]; exact List.mem_append_right _ hm2
      have h7 := and7 x2
      obtain ⟨n, hnn⟩ : ∃ n : Nat, bits .and .i64 x2 7 = (n : Int) := ⟨(bits .and .i64 x2 7).toNat, by omega⟩
      have hn8 : n < 8 := by omega
      repeat (first | refine stepA ?_ | intro _)
      refine W_any [(b12, .cells (RS.cells ⟨0, 2 + (i : Int), 0, [], false⟩) 31)] [] rfl ?_
      refine AS_at 0 (by decide +kernel) ?_; refine takeA ?_
      refine AS_at 1 (by decide +kernel) ?_; refine takeA ?_
      refine AS_at 2 (by decide +kernel) ?_; refine takeA ?_
      refine AS_at 3 (by decide +kernel) ?_; refine takeA ?_
      refine AS_at 4 (by decide +kernel) ?_; refine takeA ?_
      refine AS_at 5 (by decide +kernel) ?_; refine takeA ?_
      refine AS_one 6 rfl (by decide +kernel) rfl ?_
      refine L_P rfl rfl (P_loadM (v := .int .i64 x2) (ev_of rfl rfl) (by repeat (first | exact hmK2 | apply List.mem_cons_of_mem)) (by have := hx2; simp at this ⊢; exact this)) ?_
      refine L_nil ?_; refine ⟨rfl, (by first | exact KeepsH.brk (by decide +kernel) | exact KeepsH.sub subA | exact KeepsH.sub subT), ?_⟩
      refine AS_one 7 rfl (by decide +kernel) rfl ?_
      (first | (apply L_P; (· exact rfl); (· exact rfl)) | (apply QL_P; (· exact rfl))); (· (apply P_and; (· exact evA); (· exact evA); (· exact hnn)))
      refine L_nil ?_; refine ⟨rfl, (by first | exact KeepsH.brk (by decide +kernel) | exact KeepsH.sub subA | exact KeepsH.sub subT), ?_⟩
      refine AS_at 8 (by decide +kernel) ?_; refine takeA ?_
      refine AS_one 9 rfl (by decide +kernel) rfl ?_
      refine callT ?_; refine ⟨_, _, (kid_grow hkid hc.M hM1 n hn8).kb hK1, _, cutT, ?_⟩
      rintro v K2 ⟨rfl, σ2, _, hkid2, hK2, rfl⟩
      simp only [List.cons_append, List.nil_append]
      refine L_nil ?_; refine ⟨rfl, (by first | exact KeepsH.brk (by decide +kernel) | exact KeepsH.sub subA | exact KeepsH.sub subT), ?_⟩
      refine AS_done (by decide +kernel) ?_
      repeat (first | refine stepA ?_ | intro _)
      refine callT ?_; refine ⟨_, _, (kid_pipe hkid2).kb hK2, _, cutT, ?_⟩
      rintro v K3 ⟨rfl, σ3, _, hpd, hK3, rfl⟩
      simp only [List.cons_append, List.nil_append]
      by_cases hC : i < n3
      · obtain ⟨g3, o3, C3, E3, fr3, x3, rfl, hm3, hx3⟩ := h3 i hC
        have hmK3 : (g3, Blk.oth (.cells C3 E3 fr3)) ∈ K3 := by rw [hK3]; exact List.mem_append_right _ hm3
        repeat (first | refine stepA ?_ | intro _)
        refine L_P rfl rfl (P_loadM (v := .bool x3) (ev_of rfl rfl) (by repeat (first | exact hmK3 | apply List.mem_cons_of_mem)) (by have := hx3; simp at this ⊢; exact this)) ?_
        cases x3 with
        | true =>
          repeat (first | refine stepA ?_ | intro _)
          refine callT ?_; refine ⟨_, _, (piped_kill hpd hA2).kb hK3, _, cutT, ?_⟩
          rintro v K4 ⟨rfl, σ4, _, hdead, hK4, rfl⟩
          simp only [List.cons_append, List.nil_append]
          repeat (first | refine stepA ?_ | intro _)
          refine callT ?_; refine ⟨_, _, (dead_wait hdead).kb hK4, _, cutT, ?_⟩
          rintro v K5 ⟨rfl, σ5, _, hcal, hK5, rfl⟩
          simp only [List.cons_append, List.nil_append]
          repeat (first | refine stepA ?_ | intro _)
          rename_i b14
          have hl1 := kleftK hcal.wf.M hK5
          rw [hcal.k, left_same hcal.M] at hl1
          (first | (apply L_P; (· exact rfl); (· exact rfl)) | (apply QL_P; (· exact rfl)))
          · exact P_neS (xs := RS.cells ⟨0, 2 + (i : Int), 0, [], false⟩) (ys := RS.cells ⟨0, 2 + (i : Int), 0, [], false⟩) (b := true) (ev_of rfl rfl) (ev_of rfl rfl) (fitRS _) (fitRS _) (by simp)
          simp only [Bool.not_true]
          repeat (first | refine stepA ?_ | intro _)
          (first | (apply L_P; (· exact rfl); (· exact rfl)) | (apply QL_P; (· exact rfl)))
          · exact P_neS (xs := RS.cells ⟨0, 2 + (i : Int), 137, [], false⟩) (ys := RS.cells ⟨0, 2 + (i : Int), 137, [], false⟩) (b := true) (ev_of rfl rfl) (ev_of rfl rfl) (fitRS _) (fitRS _) (by simp)
          simp only [Bool.not_true]
          repeat (first | refine stepA ?_ | intro _)
          refine callT ?_; refine ⟨_, _, hl1, _, cutT, ?_⟩
          rintro v H' ⟨rfl, rfl⟩
          simp only [List.cons_append, List.nil_append]
          repeat (first | refine stepA ?_ | intro _)
          exact ⟨rfl, (i + 1, σ5, H'), ⟨by simp only; omega, by simp only; omega, hcal, hK5⟩, by simp only; omega, sublA, subT⟩
        | false =>
          repeat (first | refine stepA ?_ | intro _)
          refine callT ?_; refine ⟨_, _, (piped_exit hpd st hstr).kb hK3, _, cutT, ?_⟩
          rintro v K4 ⟨rfl, σ4, _, hdead, hK4, rfl⟩
          simp only [List.cons_append, List.nil_append]
          repeat (first | refine stepA ?_ | intro _)
          refine callT ?_; refine ⟨_, _, (dead_wait hdead).kb hK4, _, cutT, ?_⟩
          rintro v K5 ⟨rfl, σ5, _, hcal, hK5, rfl⟩
          simp only [List.cons_append, List.nil_append]
          repeat (first | refine stepA ?_ | intro _)
          rename_i b14
          have hl1 := kleftK hcal.wf.M hK5
          rw [hcal.k, left_same hcal.M] at hl1
          (first | (apply L_P; (· exact rfl); (· exact rfl)) | (apply QL_P; (· exact rfl)))
          · exact P_neS (xs := RS.cells ⟨0, 2 + (i : Int), 0, [], false⟩) (ys := RS.cells ⟨0, 2 + (i : Int), 0, [], false⟩) (b := true) (ev_of rfl rfl) (ev_of rfl rfl) (fitRS _) (fitRS _) (by simp)
          simp only [Bool.not_true]
          repeat (first | refine stepA ?_ | intro _)
          (first | (apply L_P; (· exact rfl); (· exact rfl)) | (apply QL_P; (· exact rfl)))
          · exact P_neS (xs := RS.cells ⟨0, 2 + (i : Int), st, [], false⟩) (ys := RS.cells ⟨0, 2 + (i : Int), st, [], false⟩) (b := true) (ev_of rfl rfl) (ev_of rfl rfl) (fitRS _) (fitRS _) (by simp)
          simp only [Bool.not_true]
          repeat (first | refine stepA ?_ | intro _)
          refine callT ?_; refine ⟨_, _, hl1, _, cutT, ?_⟩
          rintro v H' ⟨rfl, rfl⟩
          simp only [List.cons_append, List.nil_append]
          repeat (first | refine stepA ?_ | intro _)
          exact ⟨rfl, (i + 1, σ5, H'), ⟨by simp only; omega, by simp only; omega, hcal, hK5⟩, by simp only; omega, sublA, subT⟩
      · repeat (first | refine stepA ?_ | intro _)
        refine callT ?_; refine ⟨_, _, (piped_exit hpd st hstr).kb hK3, _, cutT, ?_⟩
        rintro v K4 ⟨rfl, σ4, _, hdead, hK4, rfl⟩
        simp only [List.cons_append, List.nil_append]
        repeat (first | refine stepA ?_ | intro _)
        refine callT ?_; refine ⟨_, _, (dead_wait hdead).kb hK4, _, cutT, ?_⟩
        rintro v K5 ⟨rfl, σ5, _, hcal, hK5, rfl⟩
        simp only [List.cons_append, List.nil_append]
        repeat (first | refine stepA ?_ | intro _)
        rename_i b14
        have hl1 := kleftK hcal.wf.M hK5
        rw [hcal.k, left_same hcal.M] at hl1
        (first | (apply L_P; (· exact rfl); (· exact rfl)) | (apply QL_P; (· exact rfl)))
        · exact P_neS (xs := RS.cells ⟨0, 2 + (i : Int), 0, [], false⟩) (ys := RS.cells ⟨0, 2 + (i : Int), 0, [], false⟩) (b := true) (ev_of rfl rfl) (ev_of rfl rfl) (fitRS _) (fitRS _) (by simp)
        simp only [Bool.not_true]
        repeat (first | refine stepA ?_ | intro _)
        (first | (apply L_P; (· exact rfl); (· exact rfl)) | (apply QL_P; (· exact rfl)))
        · exact P_neS (xs := RS.cells ⟨0, 2 + (i : Int), st, [], false⟩) (ys := RS.cells ⟨0, 2 + (i : Int), st, [], false⟩) (b := true) (ev_of rfl rfl) (ev_of rfl rfl) (fitRS _) (fitRS _) (by simp)
        simp only [Bool.not_true]
        repeat (first | refine stepA ?_ | intro _)
        refine callT ?_; refine ⟨_, _, hl1, _, cutT, ?_⟩
        rintro v H' ⟨rfl, rfl⟩
        simp only [List.cons_append, List.nil_append]
        repeat (first | refine stepA ?_ | intro _)
        exact ⟨rfl, (i + 1, σ5, H'), ⟨by simp only; omega, by simp only; omega, hcal, hK5⟩, by simp only; omega, sublA, subT⟩
    · repeat (first | refine stepA ?_ | intro _)
      have hkid2 := hkid
      have hK2 := hK1
      refine callT ?_; refine ⟨_, _, (kid_pipe hkid2).kb hK2, _, cutT, ?_⟩
      rintro v K3 ⟨rfl, σ3, _, hpd, hK3, rfl⟩
      simp only [List.cons_append, List.nil_append]
      by_cases hC : i < n3
      · obtain ⟨g3, o3, C3, E3, fr3, x3, rfl, hm3, hx3⟩ := h3 i hC
        have hmK3 : (g3, Blk.oth (.cells C3 E3 fr3)) ∈ K3 := by rw [hK3]; exact List.mem_append_right _ hm3
        repeat (first | refine stepA ?_ | intro _)
        refine L_P rfl rfl (P_loadM (v := .bool x3) (ev_of rfl rfl) (by repeat (first | exact hmK3 | apply List.mem_cons_of_mem)) (by have := hx3; simp at this ⊢; exact this)) ?_
        cases x3 with
        | true =>
          repeat (first | refine stepA ?_ | intro _)
          refine callT ?_; refine ⟨_, _, (piped_kill hpd hA2).kb hK3, _, cutT, ?_⟩
          rintro v K4 ⟨rfl, σ4, _, hdead, hK4, rfl⟩
          simp only [List.cons_append, List.nil_append]
          repeat (first | refine stepA ?_ | intro _)
          refine callT ?_; refine ⟨_, _, (dead_wait hdead).kb hK4, _, cutT, ?_⟩
          rintro v K5 ⟨rfl, σ5, _, hcal, hK5, rfl⟩
          simp only [List.cons_append, List.nil_append]
          repeat (first | refine stepA ?_ | intro _)
          rename_i b14
          have hl1 := kleftK hcal.wf.M hK5
          rw [hcal.k, left_same hcal.M] at hl1
          (first | (apply L_P; (· exact rfl); (· exact rfl)) | (apply QL_P; (· exact rfl)))
          · exact P_neS (xs := RS.cells ⟨0, 2 + (i : Int), 0, [], false⟩) (ys := RS.cells ⟨0, 2 + (i : Int), 0, [], false⟩) (b := true) (ev_of rfl rfl) (ev_of rfl rfl) (fitRS _) (fitRS _) (by simp)
          simp only [Bool.not_true]
          repeat (first | refine stepA ?_ | intro _)
          (first | (apply L_P; (· exact rfl); (· exact rfl)) | (apply QL_P; (· exact rfl)))
          · exact P_neS (xs := RS.cells ⟨0, 2 + (i : Int), 137, [], false⟩) (ys := RS.cells ⟨0, 2 + (i : Int), 137, [], false⟩) (b := true) (ev_of rfl rfl) (ev_of rfl rfl) (fitRS _) (fitRS _) (by simp)
          simp only [Bool.not_true]
          repeat (first | refine stepA ?_ | intro _)
          refine callT ?_; refine ⟨_, _, hl1, _, cutT, ?_⟩
          rintro v H' ⟨rfl, rfl⟩
          simp only [List.cons_append, List.nil_append]
          repeat (first | refine stepA ?_ | intro _)
          exact ⟨rfl, (i + 1, σ5, H'), ⟨by simp only; omega, by simp only; omega, hcal, hK5⟩, by simp only; omega, sublA, subT⟩
        | false =>
          repeat (first | refine stepA ?_ | intro _)
          refine callT ?_; refine ⟨_, _, (piped_exit hpd st hstr).kb hK3, _, cutT, ?_⟩
          rintro v K4 ⟨rfl, σ4, _, hdead, hK4, rfl⟩
          simp only [List.cons_append, List.nil_append]
          repeat (first | refine stepA ?_ | intro _)
          refine callT ?_; refine ⟨_, _, (dead_wait hdead).kb hK4, _, cutT, ?_⟩
          rintro v K5 ⟨rfl, σ5, _, hcal, hK5, rfl⟩
          simp only [List.cons_append, List.nil_append]
          repeat (first | refine stepA ?_ | intro _)
          rename_i b14
          have hl1 := kleftK hcal.wf.M hK5
          rw [hcal.k, left_same hcal.M] at hl1
          (first | (apply L_P; (· exact rfl); (· exact rfl)) | (apply QL_P; (· exact rfl)))
          · exact P_neS (xs := RS.cells ⟨0, 2 + (i : Int), 0, [], false⟩) (ys := RS.cells ⟨0, 2 + (i : Int), 0, [], false⟩) (b := true) (ev_of rfl rfl) (ev_of rfl rfl) (fitRS _) (fitRS _) (by simp)
          simp only [Bool.not_true]
          repeat (first | refine stepA ?_ | intro _)
          (first | (apply L_P; (· exact rfl); (· exact rfl)) | (apply QL_P; (· exact rfl)))
          · exact P_neS (xs := RS.cells ⟨0, 2 + (i : Int), st, [], false⟩) (ys := RS.cells ⟨0, 2 + (i : Int), st, [], false⟩) (b := true) (ev_of rfl rfl) (ev_of rfl rfl) (fitRS _) (fitRS _) (by simp)
          simp only [Bool.not_true]
          repeat (first | refine stepA ?_ | intro _)
          refine callT ?_; refine ⟨_, _, hl1, _, cutT, ?_⟩
          rintro v H' ⟨rfl, rfl⟩
          simp only [List.cons_append, List.nil_append]
          repeat (first | refine stepA ?_ | intro _)
          exact ⟨rfl, (i + 1, σ5, H'), ⟨by simp only; omega, by simp only; omega, hcal, hK5⟩, by simp only; omega, sublA, subT⟩
      · repeat (first | refine stepA ?_ | intro _)
        refine callT ?_; refine ⟨_, _, (piped_exit hpd st hstr).kb hK3, _, cutT, ?_⟩
        rintro v K4 ⟨rfl, σ4, _, hdead, hK4, rfl⟩
        simp only [List.cons_append, List.nil_append]
        repeat (first | refine stepA ?_ | intro _)
        refine callT ?_; refine ⟨_, _, (dead_wait hdead).kb hK4, _, cutT, ?_⟩
        rintro v K5 ⟨rfl, σ5, _, hcal, hK5, rfl⟩
        simp only [List.cons_append, List.nil_append]
        repeat (first | refine stepA ?_ | intro _)
        rename_i b14
        have hl1 := kleftK hcal.wf.M hK5
        rw [hcal.k, left_same hcal.M] at hl1
        (first | (apply L_P; (· exact rfl); (· exact rfl)) | (apply QL_P; (· exact rfl)))
        · exact P_neS (xs := RS.cells ⟨0, 2 + (i : Int), 0, [], false⟩) (ys := RS.cells ⟨0, 2 + (i : Int), 0, [], false⟩) (b := true) (ev_of rfl rfl) (ev_of rfl rfl) (fitRS _) (fitRS _) (by simp)
        simp only [Bool.not_true]
        repeat (first | refine stepA ?_ | intro _)
        (first | (apply L_P; (· exact rfl); (· exact rfl)) | (apply QL_P; (· exact rfl)))
        · exact P_neS (xs := RS.cells ⟨0, 2 + (i : Int), st, [], false⟩) (ys := RS.cells ⟨0, 2 + (i : Int), st, [], false⟩) (b := true) (ev_of rfl rfl) (ev_of rfl rfl) (fitRS _) (fitRS _) (by simp)
        simp only [Bool.not_true]
        repeat (first | refine stepA ?_ | intro _)
        refine callT ?_; refine ⟨_, _, hl1, _, cutT, ?_⟩
        rintro v H' ⟨rfl, rfl⟩
        simp only [List.cons_append, List.nil_append]
        repeat (first | refine stepA ?_ | intro _)
        exact ⟨rfl, (i + 1, σ5, H'), ⟨by simp only; omega, by simp only; omega, hcal, hK5⟩, by simp only; omega, sublA, subT⟩
  · have hB : ¬ ((i : Int) < (n1 : Int) ∧ (i : Int) < 30) := by omega
    have hup : (pidsP σi.L).Pairwise (· < ·) := by rw [hc.L]; simp [pidsP]
    have hP := kpidsK hc.wf hup hKi
    rw [hc.k, show σi.L.length = 1 by rw [hc.L]; rfl] at hP
    by_cases hA1 : i < n1
    · have hA2 : ¬ i < 30 := fun h => hA ⟨hA1, h⟩
      repeat (first | refine stepA ?_ | intro _)
      refine callT ?_; refine ⟨_, _, hP, _, cutT, ?_⟩
      rintro v H2 ⟨a, cap, K', rfl, rfl⟩
      simp only [List.nil_append]
      repeat (first | refine stepA ?_ | intro _)
      (first | refine retA ?_ | refine retB ?_)
      exact ⟨_, ⟨rfl, rfl⟩, Sub.ofPermR (R := K') (List.Perm.refl _)⟩
    · repeat (first | refine stepA ?_ | intro _)
      refine callT ?_; refine ⟨_, _, hP, _, cutT, ?_⟩
      rintro v H2 ⟨a, cap, K', rfl, rfl⟩
      simp only [List.nil_append]
      repeat (first | refine stepA ?_ | intro _)
      (first | refine retA ?_ | refine retB ?_)
      exact ⟨_, ⟨rfl, rfl⟩, Sub.ofPermR (R := K') (List.Perm.refl _)⟩
end Go.Proofs.YtcpfmjlceoiofaaGreatDoor

/-
  The law TopLoops: what was handed in, as blocks.
-/
namespace Go.Proofs.YtcpfmjlceoiofaaGreatDoor
open Go.RowKit
theorem has_list (W : World) : ∀ (gs : List Nat), (∀ g ∈ gs, ∃ C E fr, W.heap[g]? = some (.cells C E fr)) → ∃ Bs : Hp, Has Bs W ∧ ∀ g ∈ gs, ∀ C E fr, W.heap[g]? = some (.cells C E fr) → (g, Blk.oth (.cells C E fr)) ∈ Bs := by
  intro gs h
  have key : ∃ Bs : Hp, Has Bs W ∧ (∀ b k, (b, k) ∈ Bs → ∃ o, k = .oth o) ∧ ∀ g ∈ gs, g ∈ keys Bs := by
    induction gs with
    | nil => exact ⟨[], ⟨List.nodup_nil, (fun _ _ h => by cases h)⟩, (fun _ _ h => by cases h), (fun _ h => by cases h)⟩
    | cons g gs ih =>
      obtain ⟨Bs, hH, ho, hk⟩ := ih fun x hx => h x (List.mem_cons_of_mem _ hx)
      obtain ⟨C, E, fr, hg⟩ := h g List.mem_cons_self
      by_cases hin : g ∈ keys Bs
      · refine ⟨Bs, hH, ho, fun x hx => ?_⟩
        rcases List.mem_cons.1 hx with rfl | hx
        · exact hin
        · exact hk x hx
      · refine ⟨(g, .oth (.cells C E fr)) :: Bs, ⟨?_, ?_⟩, ?_, ?_⟩
        · simp only [keys, List.map_cons, List.nodup_cons]
          exact ⟨hin, hH.nd⟩
        · intro b k hm
          rcases List.mem_cons.1 hm with hm | hm
          · cases hm; exact hg
          · exact hH.rd b k hm
        · intro b k hm
          rcases List.mem_cons.1 hm with hm | hm
          · cases hm; exact ⟨_, rfl⟩
          · exact ho b k hm
        · intro x hx
          simp only [keys, List.map_cons, List.mem_cons]
          rcases List.mem_cons.1 hx with rfl | hx
          · exact .inl rfl
          · exact .inr (hk x hx)
  obtain ⟨Bs, hH, ho, hk⟩ := key
  refine ⟨Bs, hH, fun g hg C E fr hh => ?_⟩
  obtain ⟨⟨b, k⟩, hx, rfl⟩ := List.mem_map.1 (hk g hg)
  obtain ⟨o, rfl⟩ := ho b k hx
  have := hH.rd b _ hx
  simp only at hh
  rw [hh] at this
  have e : (.cells C E fr : Obj) = o := Option.some.inj this
  rw [e]
  exact hx
theorem rdI_of {W : World} {p : Option Addr} {len : Nat} (h : SlIn W p len [.int .i64]) : ∃ gs : List Nat, (∀ g ∈ gs, ∃ C E fr, W.heap[g]? = some (.cells C E fr)) ∧
    ∀ Bs : Hp, (∀ g ∈ gs, ∀ C E fr, W.heap[g]? = some (.cells C E fr) → (g, Blk.oth (.cells C E fr)) ∈ Bs) → RdI Bs p len := by
  rcases h with rfl | ⟨g, o, C, E, fr, rfl, hh, hx⟩
  · exact ⟨[], (fun _ h => by cases h), fun _ _ i hi => absurd hi (Nat.not_lt_zero _)⟩
  · refine ⟨[g], fun x hx => ?_, fun Bs hB i hi => ?_⟩
    · obtain rfl := List.mem_singleton.1 hx
      exact ⟨C, E, fr, hh⟩
    · obtain ⟨v, hv, n, rfl, -⟩ := hx i hi 0 _ rfl
      exact ⟨g, o, C, E, fr, n, rfl, hB g List.mem_cons_self C E fr hh, by simpa using hv⟩
theorem rdB_of {W : World} {p : Option Addr} {len : Nat} (h : SlIn W p len [.bool]) : ∃ gs : List Nat, (∀ g ∈ gs, ∃ C E fr, W.heap[g]? = some (.cells C E fr)) ∧
    ∀ Bs : Hp, (∀ g ∈ gs, ∀ C E fr, W.heap[g]? = some (.cells C E fr) → (g, Blk.oth (.cells C E fr)) ∈ Bs) → RdB Bs p len := by
  rcases h with rfl | ⟨g, o, C, E, fr, rfl, hh, hx⟩
  · exact ⟨[], (fun _ h => by cases h), fun _ _ i hi => absurd hi (Nat.not_lt_zero _)⟩
  · refine ⟨[g], fun x hx => ?_, fun Bs hB i hi => ?_⟩
    · obtain rfl := List.mem_singleton.1 hx
      exact ⟨C, E, fr, hh⟩
    · obtain ⟨v, hv, n, rfl⟩ := hx i hi 0 _ rfl
      exact ⟨g, o, C, E, fr, n, rfl, hB g List.mem_cons_self C E fr hh, by simpa using hv⟩
end Go.Proofs.YtcpfmjlceoiofaaGreatDoor
