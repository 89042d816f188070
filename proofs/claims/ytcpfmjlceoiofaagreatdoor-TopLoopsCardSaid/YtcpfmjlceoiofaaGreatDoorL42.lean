/-
  Joined texts; each begins with its own sentence.
-/
import Derived.Test.YtcpfmjlceoiofaaGreatDoorL41
import Derived.Test.YtcpfmjlceoiofaaGreatDoorL15
import Derived.Test.YtcpfmjlceoiofaaGreatDoorL40
import Derived.Test.YtcpfmjlceoiofaaGreatDoorL13
set_option linter.unusedSimpArgs false
set_option linter.unusedVariables false
set_option linter.unusedSectionVars false
/-
  The kernel: Step.
-/
namespace Go.Proofs.YtcpfmjlceoiofaaGreatDoor
open Go.RowKit
attribute [local irreducible] W L QL PureOp thenQ blockQ retQ Spec IterOk YSpec roundQ scopeQ noGoQ
attribute [local irreducible] AS ASi IterOkC retD retE
set_option maxHeartbeats 12800000
set_option maxRecDepth 8000
abbrev setR (σ : KS) (pid : Int) (t : GE TK) (rs : RS) : KS := { σ with T := setG σ.T pid { t.v with r := rs } }
/-- what most calls leave as it is -/
structure Keep (σ σ' : KS) : Prop where
  k : σ'.k = σ.k
  pi : σ'.pi = σ.pi
  E : σ'.E = σ.E
  fc : σ'.fc = σ.fc
theorem WfK.setR {σ : KS} (hw : WfK σ) {pid : Int} {t : GE TK} (ht : findG σ.T pid = some t) (rs : RS) : WfK (setR σ pid t rs) := by
  refine ⟨hw.M, hw.L, hw.R, hw.Rn, hw.T.set pid _, ?_, ?_, hw.Rk⟩
  · intro y hy
    rcases setG_mem hy with hy | hy
    · exact hw.Tw y hy
    · rw [hy]
      have := hw.Tw t (findG_mem ht)
      exact ⟨this.own, this.n, this.none⟩
  · intro k
    show (findP σ.L k).isSome = (findG (setG σ.T pid _) k).isSome
    rw [findG_setG_some]
    exact hw.keys k
theorem fitR : FitK [.int .i64, .int .i64, .int .i64, .str, .bool] rs0.cells := by
  refine ⟨rfl, fun j k h => ?_⟩
  match j, h with
  | 0, h => cases h; exact ⟨_, rfl, 0, rfl⟩
  | 1, h => cases h; exact ⟨_, rfl, 0, rfl⟩
  | 2, h => cases h; exact ⟨_, rfl, 0, rfl⟩
  | 3, h => cases h; exact ⟨_, rfl, _, rfl⟩
  | 4, h => cases h; exact ⟨_, rfl, _, rfl⟩
section
variable (σ : KS)
theorem step_gen (pid : Int) (x : CallV) {p : PE} {t : GE TK} (hp : findP σ.L pid = some p) (hrun : p.p.state = 1) (ht : findG σ.T pid = some t) (hr : RightP x) (h12 : x.no ≠ 12) (h16 : x.no ≠ 16) (h19 : x.no ≠ 19)
    (f : FuncId) (inst : FnOk Tryz.prog f) (rs : RS) (hrw : rs.w = false) (Pσ : KS → Prop)
    (hsel : ∀ wb Ls, getL Ls 1 = some (deedV 50 wb) ∧ getL Ls 3 = some (deedV 52 wb) ∧ getL Ls 4 = some (deedV 53 wb) ∧
      getL Ls 5 = some (deedV 54 wb) ∧ getL Ls 7 = some (deedV 56 wb) ∧ getL Ls 10 = some (deedV 59 wb) → getL Ls x.no = some (deedV f wb))
    (hd : ∀ wb, Spec Tryz.prog f [ptrB wb] (wkK wb σ.k t.ptr pid p.p.uid p.p.gid x :: kH σ) fun v H' => v = .tuple #[rs.val, .nilIface] ∧ ∃ σ', Pσ σ' ∧ H' = wkK wb σ.k t.ptr pid p.p.uid p.p.gid x :: kH σ')
    (hP : ∀ σ', Pσ σ' → σ'.k = σ.k ∧ ∃ t', findG σ'.T pid = some t' ∧ t'.b = t.b) :
    Spec Tryz.prog 11 [ptrB σ.k, .int .i64 pid, .agg x.cells.toArray] (kH σ) fun v H' => v = rs.val ∧ ∃ σ' t', Pσ σ' ∧ findG σ'.T pid = some t' ∧ t'.b = t.b ∧ H' = kH (setR σ' pid t' rs) := by
  obtain ⟨re, rn, rm, rss, rw⟩ := rs
  simp only at hrw
  subst hrw
  refine Spec_body Tryz.func11 rfl Tryz.ntmps11 rfl (fun w0 => ?_)
  have hg := (prget_spec σ.pr σ.mb σ.last σ.L σ.c pid).frame (blkG rowK σ.R ++ (blkG tkB σ.T ++ tkXs σ.T σ.E))
  simp only [hp, fndE, Option.elim, Option.map_some, Option.getD_some, List.cons_append, List.nil_append] at hg
  repeat (first | refine stepA ?_ | intro _)
  rename_i b5 b6
  refine callT ?_; refine ⟨_, _, hg, _, cutT, ?_⟩
  rintro v H' ⟨H1, ⟨rfl, rfl⟩, rfl⟩
  simp only [List.cons_append, List.nil_append]
  repeat (first | refine stepA ?_ | intro _)
  rename_i b7
  refine callA ?_; refine ⟨_, _, right_spec x, _, cutA, ?_⟩
  rintro v H' ⟨rfl, rfl⟩
  simp only [List.cons_append, List.nil_append]
  rw [decide_eq_true hr]
  repeat (first | refine stepA ?_ | intro _)
  refine callT ?_; refine ⟨_, _, worker_spec σ pid x hp ht, _, cutT, ?_⟩
  rintro v H' ⟨wb, rfl, rfl⟩
  simp only [List.cons_append, List.nil_append]
  repeat (first | refine stepA ?_ | intro _)
  refine callA ?_; refine ⟨_, _, reads_none wb σ.k t.ptr pid p.p.uid p.p.gid x h12 h16 h19, _, cutA, ?_⟩
  rintro v H' ⟨rfl, rfl⟩
  simp only [List.cons_append, List.nil_append]
  repeat (first | refine stepA ?_ | intro _)
  refine callA ?_; refine ⟨_, _, result_nil rs0, _, cutA, ?_⟩
  rintro v H' ⟨rfl, rfl⟩
  simp only [List.cons_append, List.nil_append]
  repeat (first | refine stepA ?_ | intro _)
  rename_i b10 b11
  (first | (apply L_P; (· exact rfl); (· exact rfl)) | (apply QL_P; (· exact rfl)))
  · exact P_eqS (xs := rs0.cells) (ys := rs0.cells) (b := true) (ev_of rfl rfl) (ev_of rfl rfl) fitR fitR (by simp)
  repeat (first | refine stepA ?_ | intro _)
  refine W_any [(b10, .cells rs0.cells 31), (b5, .cells x.cells 34)] [9] rfl ?_
  refine AS_at 0 (by decide +kernel) ?_; refine takeA ?_
  refine AS_at 2 (by decide +kernel) ?_; refine takeA ?_
  refine AS_at 3 (by decide +kernel) ?_; refine takeA ?_
  refine AS_one 1 rfl (by decide +kernel) rfl ?_
  refine callA ?_; refine ⟨_, _, deeds_spec wb, _, cutA, ?_⟩
  rintro v H' ⟨mb, Ls, dc, rfl, rfl, hLs⟩
  simp only [List.cons_append, List.nil_append]
  refine L_nil ?_; refine ⟨rfl, (by first | exact KeepsH.brk (by decide +kernel) | exact KeepsH.sub subA | exact KeepsH.sub subT), ?_⟩
  refine AS_one 4 rfl (by decide +kernel) rfl ?_
  (first | (apply L_P; (· exact rfl); (· exact rfl)) | (apply QL_P; (· exact rfl))); (· (apply P_lookup; (· exact evA); (· exact evA); (· exact pullA)))
  rw [hsel wb Ls hLs, Option.getD_some]
  refine L_nil ?_; refine ⟨rfl, (by first | exact KeepsH.brk (by decide +kernel) | exact KeepsH.sub subA | exact KeepsH.sub subT), ?_⟩
  refine AS_one 5 rfl (by decide +kernel) rfl ?_
  refine callBT (f := f) (pre := [ptrB wb]) ?_
  refine ⟨_, _, hd wb, _, cutT, ?_⟩
  rintro v H' ⟨rfl, σ', hP1, rfl⟩
  simp only [List.cons_append, List.nil_append]
  refine L_nil ?_; refine ⟨rfl, (by first | exact KeepsH.brk (by decide +kernel) | exact KeepsH.sub subA | exact KeepsH.sub subT), ?_⟩
  refine AS_at 6 (by decide +kernel) ?_; refine takeA ?_
  refine AS_at 7 (by decide +kernel) ?_; refine takeA ?_
  refine AS_one 8 rfl (by decide +kernel) rfl ?_
  refine callA ?_; refine ⟨_, _, result_nil ⟨re, rn, rm, rss, false⟩, _, cutA, ?_⟩
  rintro v H' ⟨rfl, rfl⟩
  simp only [List.cons_append, List.nil_append]
  refine L_nil ?_; refine ⟨rfl, (by first | exact KeepsH.brk (by decide +kernel) | exact KeepsH.sub subA | exact KeepsH.sub subT), ?_⟩
  refine AS_one 9 rfl (by decide +kernel) rfl ?_
  refine stepA ?_
  refine L_nil ?_; refine ⟨rfl, (by first | exact KeepsH.brk (by decide +kernel) | exact KeepsH.sub subA | exact KeepsH.sub subT), ?_⟩
  refine AS_done (by decide +kernel) ?_
  obtain ⟨hk, t', ht', htb⟩ := hP σ' hP1
  have hag := again_none σ'
  rw [hk] at hag
  obtain ⟨tb, tw, tk, tv⟩ := t'
  simp only at htb
  subst htb
  obtain ⟨ZT, pT, pT2, -⟩ := blkG_at tkB ht'
  obtain ⟨ZX, pX, pX2, -⟩ := tkXs_at σ'.E ht'
  simp only at pT pX pT2 pX2
  have pZ : (kZ σ'.L σ'.R σ'.T σ'.E).Perm (tkB t.b tv :: (prB σ'.L ++ (blkG rowK σ'.R ++ (ZT ++ tkXs σ'.T σ'.E)))) := by
    classical
    refine List.perm_iff_count.2 fun x => ?_
    have q1 := pT.count_eq x
    simp only [List.count_append, List.count_cons] at q1 ⊢
    rw [q1]
    ac_rfl
  repeat (first | refine stepA ?_ | intro _)
  refine W_tail (T := kZ σ'.L σ'.R σ'.T σ'.E) pZ ?_
  simp only [List.cons_append, List.nil_append]
  refine W_any [wkK wb σ.k (ptrB t.b) pid p.p.uid p.p.gid x, (b10, .cells (RS.cells ⟨re, rn, rm, rss, false⟩) 31)] [7] rfl ?_
  refine AS_at 0 (by decide +kernel) ?_; refine takeA ?_
  refine AS_at 1 (by decide +kernel) ?_; refine takeA ?_
  refine AS_at 2 (by decide +kernel) ?_; refine takeA ?_
  refine AS_at 3 (by decide +kernel) ?_; refine takeA ?_
  refine AS_at 4 (by decide +kernel) ?_; refine takeA ?_
  refine AS_at 5 (by decide +kernel) ?_; refine takeA ?_
  refine AS_at 6 (by decide +kernel) ?_; refine takeA ?_
  refine AS_one 7 rfl (by decide +kernel) rfl ?_
  refine L_store (cs := RS.cells ⟨re, rn, rm, rss, false⟩) (Ln := ({ tv with r := ⟨re, rn, rm, rss, false⟩ } : TK).cells) evA evA rfl rfl (fun u hu => List.all_eq_true.1 (show List.all (RS.cells ⟨re, rn, rm, rss, false⟩) (fun u => u.oneCell') = true from rfl) u hu) repA rfl (by simp) ?_
  refine L_nil ?_; refine ⟨rfl, (by first | exact KeepsH.brk (by decide +kernel) | exact KeepsH.sub subA | exact KeepsH.sub subT), ?_⟩
  refine AS_done (by decide +kernel) ?_
  repeat (first | refine stepA ?_ | intro _)
  obtain ⟨nt, hnt⟩ : ∃ nt : TK, nt = { tv with r := ⟨re, rn, rm, rss, false⟩ } := ⟨_, rfl⟩
  refine W_loop (fun _ : Unit => [(0, ptrB σ.k), (6, ptrB b6), (10, ptrB b10)]) (fun _ => (b10, .cells (RS.cells ⟨re, rn, rm, rss, false⟩) 31) :: (b6, .cells rs0.cells 31) :: knB σ' :: tbB σ'.pr σ'.mb σ'.last :: kvB σ'.mb σ'.L σ'.c :: flB σ'.fr σ'.fm σ'.fc :: rmB σ'.fm σ'.R σ'.rc :: tmB σ'.tm σ'.T σ'.tc :: (memH σ'.m σ'.M ++ (tkB t.b nt :: (prB σ'.L ++ (blkG rowK σ'.R ++ (ZT ++ tkXs σ'.T σ'.E)))))) (fun _ => True) (fun _ => 0) () trivial sublA (by rw [hnt]; exact subT) ?_
  rintro ⟨⟩ -
  simp only [List.cons_append, List.nil_append]
  repeat (first | refine stepA ?_ | intro _)
  refine callA ?_; refine ⟨_, _, hag, _, cutA, ?_⟩
  rintro v H' ⟨rfl, rfl⟩
  simp only [List.cons_append, List.nil_append]
  repeat (first | refine stepA ?_ | intro _)
  (first | refine retA ?_ | refine retB ?_)
  refine ⟨_, ⟨rfl, σ', _, hP1, ht', rfl, rfl⟩, ?_⟩
  have q1' := pT2 nt
  have q2' := pX2 nt
  have eX : tkX nt = tkX tv := by rw [hnt]; rfl
  rw [eX] at q2'
  have q2'' := q2'.trans pX.symm
  obtain ⟨T', hT'⟩ : ∃ T', T' = setG σ'.T pid nt := ⟨_, rfl⟩
  rw [← hT'] at q1' q2''
  have e3 : T'.map GE.kv = σ'.T.map GE.kv := by rw [hT']; exact setG_kv
  have pF : ((knB σ' :: tbB σ'.pr σ'.mb σ'.last :: kvB σ'.mb σ'.L σ'.c :: flB σ'.fr σ'.fm σ'.fc :: rmB σ'.fm σ'.R σ'.rc :: (σ'.tm, mapB (T'.map GE.kv) σ'.tc) :: (memH σ'.m σ'.M ++ kZ σ'.L σ'.R T' σ'.E)) ++ [(b10, Blk.cells (RS.cells ⟨re, rn, rm, rss, false⟩) 31), (b6, Blk.cells (RS.cells ⟨re, rn, rm, rss, false⟩) 31)]).Perm
      (knB σ' :: (b10, .cells (RS.cells ⟨re, rn, rm, rss, false⟩) 31) :: (b6, .cells (RS.cells ⟨re, rn, rm, rss, false⟩) 31) :: tbB σ'.pr σ'.mb σ'.last :: kvB σ'.mb σ'.L σ'.c :: flB σ'.fr σ'.fm σ'.fc :: rmB σ'.fm σ'.R σ'.rc :: (σ'.tm, mapB (σ'.T.map GE.kv) σ'.tc) :: (memH σ'.m σ'.M ++ (tkB t.b nt :: (prB σ'.L ++ (blkG rowK σ'.R ++ (ZT ++ tkXs σ'.T σ'.E)))))) := by
    rw [e3]
    classical
    refine List.perm_iff_count.2 fun x => ?_
    have q1 := q1'.count_eq x
    have q2 := q2''.count_eq x
    simp only [List.count_append, List.count_cons, List.count_nil, Nat.add_zero, Nat.zero_add] at q1 q2 ⊢
    rw [q1, q2]
    ac_rfl
  subst hT' hnt
  exact Sub.ofPermR pF
end
end Go.Proofs.YtcpfmjlceoiofaaGreatDoor

/-
  The kernel: Step: fork, exit, wait; Proc, Pids.
-/
namespace Go.Proofs.YtcpfmjlceoiofaaGreatDoor
open Go.RowKit
attribute [local irreducible] W L QL PureOp thenQ blockQ retQ Spec IterOk YSpec roundQ scopeQ noGoQ
attribute [local irreducible] AS ASi IterOkC retD retE
set_option maxHeartbeats 12800000
set_option maxRecDepth 8000
theorem findP_app {A B : List PE} {k : Int} (h : ∀ y ∈ A, y.p.pid ≠ k) : findP (A ++ B) k = findP B k := by
  induction A with
  | nil => rfl
  | cons y A ih =>
    have := h y (by simp)
    rw [List.cons_append, findP, if_neg (fun e => this e.symm), ih (fun z hz => h z (by simp [hz]))]
/-- numbers that rise stand in order already -/
theorem inOrder_up {L : List PE} (h : (pidsP L).Pairwise (· < ·)) : inOrder L = L := by
  have e : ksS (L.map PE.kv) = pidsP L := by
    have e1 : (L.map PE.kv).map (·.k) = pidsP L := by simp [pidsP, PE.kv, Function.comp_def]
    rw [ksS, e1]
    exact sortI_eq (List.Perm.refl _) (h.imp fun h => Int.le_of_lt h)
  rw [inOrder, e]
  have key : ∀ (B A : List PE), (pidsP (A ++ B)).Pairwise (· < ·) → (pidsP B).filterMap (findP (A ++ B)) = B := by
    intro B
    induction B with
    | nil => intro A _; rfl
    | cons x B ih =>
      intro A hp
      have hx : ∀ y ∈ A, y.p.pid ≠ x.p.pid := by
        intro y hy he
        rw [pidsP, List.map_append, List.pairwise_append] at hp
        have := hp.2.2 y.p.pid (List.mem_map.2 ⟨y, hy, rfl⟩) x.p.pid (List.mem_map.2 ⟨x, by simp, rfl⟩)
        omega
      have h1 : findP (A ++ x :: B) x.p.pid = some x := by rw [findP_app hx, findP, if_pos rfl]
      have h2 := ih (A ++ [x]) (by rw [List.append_assoc]; exact hp)
      rw [List.append_assoc] at h2
      show (x.p.pid :: pidsP B).filterMap _ = _
      rw [List.filterMap_cons_some h1]
      exact congrArg _ h2
  exact key L [] h
abbrev cV (no a : Int) : CallV := ⟨no, 0, a, 0, 0, 0, []⟩
theorem cV_ok {no a : Int} (h1 : 1 ≤ no ∧ no ≤ 25) (h2 : Sh a) : RightP (cV no a) := ⟨h1, by show (0 : Int) ≤ 0 ∧ (0 : Int) ≤ 255; decide, h2, by show Sh 0; decide, by show Sh 0; decide, by show Sh 0; decide, by simp⟩
/-- a process's space -/
def spOf (σ : KS) (k : Int) : Option SpM := (findG σ.T k).map (·.v.sp)
theorem spOf_setR {σ : KS} {pid : Int} {t : GE TK} (ht : findG σ.T pid = some t) (rs : RS) (k : Int) : spOf (setR σ pid t rs) k = spOf σ k := by
  show (findG (setG σ.T pid { t.v with r := rs }) k).map (·.v.sp) = (findG σ.T k).map (·.v.sp)
  rw [findG_set ht]
  split
  · rename_i h; rw [h, ht]; rfl
  · rfl
theorem spOf_some {σ : KS} {k : Int} {s : SpM} (h : spOf σ k = some s) : ∃ t, findG σ.T k = some t ∧ t.v.sp = s := by
  unfold spOf at h
  cases hf : findG σ.T k with
  | none => rw [hf] at h; cases h
  | some t => rw [hf] at h; exact ⟨t, rfl, Option.some.inj h⟩
section
variable (σ : KS)
theorem step_fork (hw : WfK σ) (pid : Int) {p : PE} {s : SpM} (hp : findP σ.L pid = some p) (hrun : p.p.state = 1) (hs : spOf σ pid = some s) (hM : (forkM σ.M s.root).1 = 0) (hlen : σ.L.length < 16) (hlast : σ.last < 30000) :
    Spec Tryz.prog 11 [ptrB σ.k, .int .i64 pid, .agg (cV 1 0).cells.toArray] (kH σ) fun v H' => v = RS.val ⟨0, σ.last + 1, 0, [], false⟩ ∧
      ∃ σ' b, WfK σ' ∧ Keep σ σ' ∧ σ'.M = (forkM σ.M s.root).2.2 ∧ σ'.L = σ.L ++ [⟨b, σ.c, childP p pid σ.last⟩] ∧ σ'.last = σ.last + 1 ∧ (∀ k, spOf σ' k = if k = σ.last + 1 then some { s with root := (forkM σ.M s.root).2.1 } else spOf σ k) ∧ (findG σ'.R (σ.last + 1)).isSome = true ∧ H' = kH σ' := by
  obtain ⟨t, ht, rfl⟩ := spOf_some hs
  have hlast1 := hw.L.last
  have hpid : 1 ≤ pid ∧ pid ≤ σ.last := by have := hw.L.rng p (findP_mem hp); rwa [findP_pid hp] at this
  have inst : FnOk Tryz.prog 50 := inferInstance
  have hTn : findG σ.T (σ.last + 1) = none := by
    have := hw.keys (σ.last + 1)
    rw [findP_last hw.L] at this
    cases h : findG σ.T (σ.last + 1) with
    | none => rfl
    | some y => rw [h] at this; simp at this
  refine (step_gen σ pid (cV 1 0) hp hrun ht (cV_ok (by decide) (by decide)) (by decide) (by decide) (by decide) _ inst ⟨0, σ.last + 1, 0, [], false⟩ rfl
    (fun σ' => ∃ b nb nt R' rc', nt.sp = { t.v.sp with root := (forkM σ.M t.v.sp.root).2.1 } ∧ (findG R' (σ.last + 1)).isSome = true ∧ WfK (forkK σ t.v.sp.root p pid b nb nt R' rc') ∧ σ' = forkK σ t.v.sp.root p pid b nb nt R' rc')
    (fun wb Ls h => h.1) (fun wb => (kfork_spec σ hw wb p.p.uid p.p.gid pid (cV 1 0) hp hrun ht hM hlen hlast).mono ?_) ?_).mono ?_
  · rintro v H' ⟨b, nb, nt, R', rc', rfl, h1, h3, h2, rfl⟩
    exact ⟨rfl, _, ⟨b, nb, nt, R', rc', h1, h3, h2, rfl⟩, rfl⟩
  · rintro _ ⟨b, nb, nt, R', rc', h1, h3, h2, rfl⟩
    refine ⟨rfl, t, ?_, rfl⟩
    show findG (σ.T ++ [_]) pid = some t
    rw [findG_add, ht]
    rfl
  · rintro v H' ⟨rfl, σ', t', ⟨b, nb, nt, R', rc', h1, h3, h2, rfl⟩, ht', -, rfl⟩
    refine ⟨rfl, _, b, h2.setR ht' _, ⟨rfl, rfl, rfl, rfl⟩, rfl, rfl, rfl, ?_, h3, rfl⟩
    intro k
    rw [spOf_setR ht']
    show (findG (σ.T ++ [_]) k).map (·.v.sp) = if k = σ.last + 1 then some { t.v.sp with root := (forkM σ.M t.v.sp.root).2.1 } else (findG σ.T k).map (·.v.sp)
    rw [findG_add]
    by_cases hk : k = σ.last + 1
    · rw [if_pos hk, if_pos hk, hk, hTn]
      simp [h1]
    · rw [if_neg hk, if_neg hk, Option.or_none]
theorem step_exit (hw : WfK σ) (pid status : Int) {p : PE} {s : SpM} (hp : findP σ.L pid = some p) (hrun : p.p.state = 1) (hs : spOf σ pid = some s) (hst : 0 ≤ status ∧ status ≤ 255) (h1 : pid ≠ 1) :
    Spec Tryz.prog 11 [ptrB σ.k, .int .i64 pid, .agg (cV 3 status).cells.toArray] (kH σ) fun v H' => v = rs0.val ∧
      ∃ σ', WfK σ' ∧ Keep σ σ' ∧ σ'.M = (sdropM σ.M s.root).2 ∧ σ'.L = mapP (setP σ.L pid (endedP p.p status)) (orphan pid) ∧ σ'.last = σ.last ∧ (∀ k, spOf σ' k = spOf σ k) ∧ H' = kH σ' := by
  obtain ⟨t, ht, rfl⟩ := spOf_some hs
  have inst : FnOk Tryz.prog 52 := inferInstance
  refine (step_gen σ pid (cV 3 status) hp hrun ht (cV_ok (by decide) ⟨by omega, by omega⟩) (by show (3 : Int) ≠ 12; decide) (by show (3 : Int) ≠ 16; decide) (by show (3 : Int) ≠ 19; decide) _ inst rs0 rfl
    (fun σ' => ∃ am R' rc', WfK (endK σ pid status p t am R' rc') ∧ σ' = endK σ pid status p t am R' rc')
    (fun wb Ls h => h.2.1) (fun wb => (kexit_spec σ hw wb t.ptr p.p.uid p.p.gid pid (cV 3 status) hp hrun ht hst h1).mono ?_) ?_).mono ?_
  · rintro v H' ⟨rfl, am, R', rc', h2, -, -, rfl⟩
    exact ⟨rfl, _, ⟨am, R', rc', h2, rfl⟩, rfl⟩
  · rintro _ ⟨am, R', rc', h2, rfl⟩
    refine ⟨rfl, { t with v := { t.v with am := am, ac := 0 } }, ?_, rfl⟩
    show findG (setG σ.T pid _) pid = _
    rw [findG_set ht, if_pos rfl]
  · rintro v H' ⟨rfl, σ', t', ⟨am, R', rc', h2, rfl⟩, ht', -, rfl⟩
    refine ⟨rfl, _, h2.setR ht' _, ⟨rfl, rfl, rfl, rfl⟩, rfl, rfl, rfl, ?_, rfl⟩
    intro k
    rw [spOf_setR ht']
    show (findG (setG σ.T pid _) k).map (·.v.sp) = (findG σ.T k).map (·.v.sp)
    rw [findG_set ht]
    split
    · rename_i h; rw [h, ht]; rfl
    · rfl
theorem step_wait (hw : WfK σ) (pid : Int) {p z : PE} {s : SpM} (hp : findP σ.L pid = some p) (hrun : p.p.state = 1) (hs : spOf σ pid = some s) (hz : waitZ σ.L pid = some z) (hne : z.p.pid ≠ pid) :
    Spec Tryz.prog 11 [ptrB σ.k, .int .i64 pid, .agg (cV 4 0).cells.toArray] (kH σ) fun v H' => v = RS.val ⟨0, z.p.pid, z.p.status, [], false⟩ ∧
      ∃ σ', WfK σ' ∧ Keep σ σ' ∧ σ'.M = σ.M ∧ σ'.L = delP σ.L z.p.pid ∧ σ'.last = σ.last ∧ (∀ k, k ≠ z.p.pid → spOf σ' k = spOf σ k) ∧ H' = kH σ' := by
  obtain ⟨t, ht, rfl⟩ := spOf_some hs
  have inst : FnOk Tryz.prog 53 := inferInstance
  have hrE : runE σ.L pid = 0 := by simp only [runE, hp, Option.elim, hrun, if_true]
  refine (step_gen σ pid (cV 4 0) hp hrun ht (cV_ok (by decide) (by decide)) (by decide) (by decide) (by decide) _ inst ⟨0, z.p.pid, z.p.status, [], false⟩ rfl
    (fun σ' => σ' = reapK σ z.p.pid)
    (fun wb Ls h => h.2.2.1) (fun wb => (kwait_some σ hw wb t.ptr p.p.uid p.p.gid pid (cV 4 0) hrE hz).mono ?_) ?_).mono ?_
  · rintro v H' ⟨rfl, h2, rfl⟩
    exact ⟨rfl, _, rfl, rfl⟩
  · rintro _ rfl
    refine ⟨rfl, t, ?_, rfl⟩
    show findG (delG σ.T z.p.pid) pid = _
    rw [findG_del hw.T.nd, if_neg (fun e => hne e.symm), ht]
  · rintro v H' ⟨rfl, σ', t', rfl, ht', -, rfl⟩
    refine ⟨rfl, _, (hw.reap z.p.pid).setR ht' _, ⟨rfl, rfl, rfl, rfl⟩, rfl, rfl, rfl, ?_, rfl⟩
    intro k hk
    rw [spOf_setR ht']
    show (findG (delG σ.T z.p.pid) k).map (·.v.sp) = (findG σ.T k).map (·.v.sp)
    rw [findG_del hw.T.nd, if_neg hk]
theorem ktask_spec (pid : Int) {t : GE TK} (ht : findG σ.T pid = some t) : Spec Tryz.prog 40 [ptrB σ.k, .int .i64 pid] [knB σ, tmB σ.tm σ.T σ.tc] fun v H' => v = .tuple #[t.ptr, .int .i64 0] ∧ H' = [knB σ, tmB σ.tm σ.T σ.tc] := by
  refine Spec_body Tryz.func40 rfl Tryz.ntmps40 rfl (fun w0 => ?_)
  repeat (first | refine stepA ?_ | intro _)
  (first | (apply L_P; (· exact rfl); (· exact rfl)) | (apply QL_P; (· exact rfl))); (· (apply P_lookupOk; (· exact evA); (· exact evA); (· exact pullA)))
  rw [getL_g, ht]
  simp only [Option.map_some, Option.getD_some, Option.isSome_some]
  repeat (first | refine stepA ?_ | intro _)
  (first | refine retA ?_ | refine retB ?_); exact ⟨_, ⟨rfl, rfl⟩, subA⟩
theorem kproc_spec (hw : WfK σ) (pid : Int) {p : PE} (hp : findP σ.L pid = some p) : Spec Tryz.prog 16 [ptrB σ.k, .int .i64 pid] (kH σ) fun v H' => v = .tuple #[.agg p.p.cells.toArray, .int .i64 0] ∧ H' = kH σ := by
  have hTs : (findG σ.T pid).isSome := by rw [← hw.keys, hp]; rfl
  obtain ⟨t, ht⟩ := Option.isSome_iff_exists.1 hTs
  have hg := (prget_spec σ.pr σ.mb σ.last σ.L σ.c pid).frame (blkG rowK σ.R ++ (blkG tkB σ.T ++ tkXs σ.T σ.E))
  simp only [hp, fndE, Option.elim, Option.map_some, Option.getD_some, List.cons_append, List.nil_append] at hg
  refine Spec_body Tryz.func16 rfl Tryz.ntmps16 rfl (fun w0 => ?_)
  repeat (first | refine stepA ?_ | intro _)
  rename_i b4
  refine callA ?_; refine ⟨_, _, ktask_spec σ pid ht, _, cutA, ?_⟩
  rintro v H' ⟨rfl, rfl⟩
  simp only [List.cons_append, List.nil_append]
  repeat (first | refine stepA ?_ | intro _)
  refine callT ?_; refine ⟨_, _, hg, _, cutT, ?_⟩
  rintro v H' ⟨H1, ⟨rfl, rfl⟩, rfl⟩
  simp only [List.cons_append, List.nil_append]
  repeat (first | refine stepA ?_ | intro _)
  (first | refine retA ?_ | refine retB ?_)
  exact ⟨_, ⟨rfl, rfl⟩, subT⟩
theorem kpids_spec (hw : WfK σ) (hup : (pidsP σ.L).Pairwise (· < ·)) : Spec Tryz.prog 12 [ptrB σ.k] (kH σ) fun v H' => ∃ a cap Hs, v = .slice a σ.L.length cap ∧ Own 3 1 a σ.L.length cap (ivs (pidsP σ.L)) Hs ∧ H' = kH σ ++ Hs := by
  have e1 : (σ.L.map PE.kv).map (·.k) = pidsP σ.L := by simp [pidsP, PE.kv, Function.comp_def]
  have e : ksS (σ.L.map PE.kv) = pidsP σ.L := by
    rw [ksS, e1]
    exact sortI_eq (List.Perm.refl _) (hup.imp fun h => Int.le_of_lt h)
  have hg := pids_spec σ.pr σ.mb σ.last hw.L.ks
  rw [e, List.length_map] at hg
  refine Spec_body Tryz.func12 rfl Tryz.ntmps12 rfl (fun w0 => ?_)
  repeat (first | refine stepA ?_ | intro _)
  refine callT ?_; refine ⟨_, _, hg, _, cutT, ?_⟩
  rintro v H' ⟨a, cap, Hs, rfl, how, rfl⟩
  simp only [List.cons_append, List.nil_append, List.append_assoc]
  repeat (first | refine stepA ?_ | intro _)
  (first | refine retA ?_ | refine retB ?_)
  refine ⟨_, ⟨a, cap, Hs, rfl, how, rfl⟩, ?_⟩
  exact Sub.ofPermR (R := []) (by rw [List.append_nil]; exact permA)
end
end Go.Proofs.YtcpfmjlceoiofaaGreatDoor

/-
  The kernel: grow.
-/
namespace Go.Proofs.YtcpfmjlceoiofaaGreatDoor
open Go.RowKit
attribute [local irreducible] W L QL PureOp thenQ blockQ retQ Spec IterOk YSpec roundQ scopeQ noGoQ
attribute [local irreducible] AS ASi IterOkC retD retE
set_option maxHeartbeats 12800000
set_option maxRecDepth 8000
theorem growGo_wf {root : Int} : ∀ (k : Nat) {M : List Frm} {us : List (Option Nat)} (p : Nat), WfM M → WfM (growGo M root us p k).2.1
  | 0, _, _, _, h => h
  | k + 1, M, us, p, h => by
    rw [growGo]
    have h1 := freshM_wf h root us p 3
    split
    · exact growGo_wf k (p + 1) h1
    · exact h1
theorem growM_wf {M : List Frm} (h : WfM M) (root : Int) (en heap : Nat) (pages : Int) : WfM (growM M root en heap pages).2 := by
  rw [growM]
  split
  · exact h
  · simp only
    split
    · exact shrinkGo_wf _ (growGo_wf _ _ h) _ _
    · exact undoAll_wf (growGo_wf _ _ h) _ _
/-- a kernel behind a grow -/
abbrev growK (σ : KS) (pid : Int) (M' : List Frm) (nt : TK) : KS := { σ with M := M', T := setG σ.T pid nt }
section
variable (σ : KS)
theorem kgrow_spec (hw : WfK σ) (wb : Nat) (uid gid pid : Int) (x : CallV) {t : GE TK} (ht : findG σ.T pid = some t) {root : Int} {text data heap : Nat} (hsp : t.v.sp = ⟨root, text, data, heap, []⟩) (hsum : text + data + heap ≤ 128) (hA : Sh x.a) (hM : (growM σ.M root (text + data + heap) heap x.a).1 = 0) :
    Spec Tryz.prog 56 [ptrB wb] (wkK wb σ.k t.ptr pid uid gid x :: kH σ) fun v H' => v = .tuple #[RS.val ⟨0, 64 * ((text + data + heap : Nat) : Int), 0, [], false⟩, .nilIface] ∧
      ∃ nt, nt.sp = ⟨root, text, data, (heap : Int) + x.a, []⟩ ∧ WfK (growK σ pid (growM σ.M root (text + data + heap) heap x.a).2 nt) ∧ H' = wkK wb σ.k t.ptr pid uid gid x :: kH (growK σ pid (growM σ.M root (text + data + heap) heap x.a).2 nt) := by
  obtain ⟨tb, tw, tk, ⟨sp, a, n, cap, hs, am, ac, tr, tc, da⟩⟩ := t
  simp only at hsp
  subst hsp
  obtain ⟨ZT, pT, pT2, -⟩ := blkG_at tkB ht
  obtain ⟨ZX, pX, pX2, -⟩ := tkXs_at σ.E ht
  have hwt := hw.Tw _ (findG_mem ht)
  obtain ⟨how, hn, -⟩ := hwt
  simp only [tkX, List.cons_append] at pT pX how hn pT2 pX2
  obtain ⟨h1, h2⟩ := hA
  obtain ⟨M', hM'⟩ : ∃ M', M' = (growM σ.M root (text + data + heap) heap x.a).2 := ⟨_, rfl⟩
  have hwM : WfM M' := by rw [hM']; exact growM_wf hw.M _ _ _ _
  obtain ⟨TV, hTV⟩ : ∃ TV : TK, TV = ⟨⟨root, text, data, heap, []⟩, a, n, cap, hs, am, ac, tr, tc, da⟩ := ⟨_, rfl⟩
  obtain ⟨Y, hY⟩ : ∃ Y, Y = prB σ.L ++ (blkG rowK σ.R ++ (ZT ++ ZX)) := ⟨_, rfl⟩
  have pZ : (kZ σ.L σ.R σ.T σ.E).Perm (tkB tb ⟨⟨root, text, data, heap, []⟩, a, n, cap, hs, am, ac, tr, tc, da⟩ :: amB am ac :: (hs ++ Y)) := by
    rw [hY]
    classical
    refine List.perm_iff_count.2 fun x => ?_
    have q1 := pT.count_eq x
    have q2 := pX.count_eq x
    simp only [List.count_append, List.count_cons] at q1 q2 ⊢
    rw [q1, q2]
    ac_rfl
  have hf := (grow_sp σ.m hw.M root text data heap [] hsum x.a ⟨by omega, by omega⟩ how hn).frame Y
  rw [← hM'] at hf ⊢
  simp only [List.cons_append, List.nil_append, List.append_assoc] at hf
  refine Spec_body Tryz.func56 rfl Tryz.ntmps56 rfl (fun w0 => ?_)
  try simp only [List.cons_append, List.nil_append]
  refine W_tail (T := kZ σ.L σ.R σ.T σ.E) pZ ?_
  simp only [List.cons_append, List.nil_append]
  repeat (first | refine stepA ?_ | intro _)
  rename_i b2
  refine W_any [knB σ, wkK wb σ.k (ptrB tb) pid uid gid x, tkB tb ⟨⟨root, text, data, heap, []⟩, a, n, cap, hs, am, ac, tr, tc, da⟩] [] rfl ?_
  refine AS_at 0 (by decide +kernel) ?_; refine takeA ?_
  refine AS_at 1 (by decide +kernel) ?_; refine takeA ?_
  refine AS_at 2 (by decide +kernel) ?_; refine takeA ?_
  refine AS_at 3 (by decide +kernel) ?_; refine takeA ?_
  refine AS_at 4 (by decide +kernel) ?_; refine takeA ?_
  refine AS_at 5 (by decide +kernel) ?_; refine takeA ?_
  refine AS_at 6 (by decide +kernel) ?_; refine takeA ?_
  refine AS_at 7 (by decide +kernel) ?_; refine takeA ?_
  refine AS_at 8 (by decide +kernel) ?_; refine takeA ?_
  refine AS_at 9 (by decide +kernel) ?_; refine takeA ?_
  refine AS_at 10 (by decide +kernel) ?_; refine takeA ?_
  refine AS_at 11 (by decide +kernel) ?_; refine takeA ?_
  refine AS_at 12 (by decide +kernel) ?_; refine takeA ?_
  refine AS_at 13 (by decide +kernel) ?_; refine takeA ?_
  refine AS_at 14 (by decide +kernel) ?_; refine takeA ?_
  refine AS_at 15 (by decide +kernel) ?_; refine takeA ?_
  refine AS_at 16 (by decide +kernel) ?_; refine takeA ?_
  refine AS_at 17 (by decide +kernel) ?_; refine takeA ?_
  refine AS_at 18 (by decide +kernel) ?_; refine takeA ?_
  refine AS_two 19 24 rfl (by decide +kernel) rfl rfl ?_ ?_
  · skip
    refine callT ?_; refine ⟨_, _, hf, _, cutT, ?_⟩
    rintro v H' ⟨H1, (⟨h0, -, -⟩ | ⟨-, a2, cap2, hs2, rfl, how2, rfl⟩), rfl⟩
    · exact absurd hM h0
    simp only [List.cons_append, List.nil_append, List.append_assoc]
    refine L_nil ?_; refine ⟨rfl, (by first | exact KeepsH.brk (by decide +kernel) | exact KeepsH.sub subA | exact KeepsH.sub subT), ?_⟩
    refine AS_at 20 (by decide +kernel) ?_; refine takeA ?_
    refine AS_at 21 (by decide +kernel) ?_; refine takeA ?_
    refine AS_at 22 (by decide +kernel) ?_; refine takeA ?_
    refine AS_at 23 (by decide +kernel) ?_; refine takeA ?_
    refine AS_one 24 rfl (by decide +kernel) rfl ?_
    refine stepA ?_
    intro b4
    refine L_nil ?_; refine ⟨rfl, (by first | exact KeepsH.brk (by decide +kernel) | exact KeepsH.sub subA | exact KeepsH.sub subT), ?_⟩
    refine AS_one 25 rfl (by decide +kernel) rfl ?_
    refine stepA ?_
    refine L_nil ?_; refine ⟨rfl, (by first | exact KeepsH.brk (by decide +kernel) | exact KeepsH.sub subA | exact KeepsH.sub subT), ?_⟩
    refine AS_at 26 (by decide +kernel) ?_; refine takeA ?_
    refine AS_at 27 (by decide +kernel) ?_; refine takeA ?_
    refine AS_done (by decide +kernel) ?_
    repeat (first | refine stepA ?_ | intro _)
    refine W_any [wkK wb σ.k (ptrB tb) pid uid gid x, (b4, .cells [.int .i64 root, .int .i64 (text : Int), .int .i64 (data : Int), .int .i64 ((heap : Int) + x.a), .slice a2 n cap2] 84)] [7] rfl ?_
    refine AS_at 0 (by decide +kernel) ?_; refine takeA ?_
    refine AS_at 1 (by decide +kernel) ?_; refine takeA ?_
    refine AS_at 2 (by decide +kernel) ?_; refine takeA ?_
    refine AS_at 3 (by decide +kernel) ?_; refine takeA ?_
    refine AS_at 4 (by decide +kernel) ?_; refine takeA ?_
    refine AS_at 5 (by decide +kernel) ?_; refine takeA ?_
    refine AS_at 6 (by decide +kernel) ?_; refine takeA ?_
    refine AS_one 7 rfl (by decide +kernel) rfl ?_
    refine L_store (cs := [.int .i64 root, .int .i64 (text : Int), .int .i64 (data : Int), .int .i64 ((heap : Int) + x.a), .slice a2 n cap2]) (Ln := (⟨⟨root, text, data, (heap : Int) + x.a, []⟩, a2, n, cap2, hs2, am, ac, tr, tc, da⟩ : TK).cells) evA evA rfl rfl (fun u hu => List.all_eq_true.1 (show List.all [.int .i64 root, .int .i64 (text : Int), .int .i64 (data : Int), .int .i64 ((heap : Int) + x.a), .slice a2 n cap2] (fun u => u.oneCell') = true from rfl) u hu) repA rfl (by simp) ?_
    refine L_nil ?_; refine ⟨rfl, (by first | exact KeepsH.brk (by decide +kernel) | exact KeepsH.sub subA | exact KeepsH.sub subT), ?_⟩
    refine AS_done (by decide +kernel) ?_
    repeat (first | refine stepA ?_ | intro _)
    refine callA ?_; refine ⟨_, _, number_nil (64 * ((text + data + heap : Nat) : Int)), _, cutA, ?_⟩
    rintro v H' ⟨rfl, rfl⟩
    simp only [List.cons_append, List.nil_append]
    repeat (first | refine stepA ?_ | intro _)
    obtain ⟨nt, hnt⟩ : ∃ nt : TK, nt = ⟨⟨root, text, data, (heap : Int) + x.a, []⟩, a2, n, cap2, hs2, am, ac, tr, tc, da⟩ := ⟨_, rfl⟩
    have hwnt : WfT nt := by rw [hnt]; exact ⟨how2, hn, rfl⟩
    (first | refine retA ?_ | refine retB ?_)
    refine ⟨_, ⟨rfl, nt, by rw [hnt], ?_, rfl⟩, ?_⟩
    · refine ⟨hwM, hw.L, hw.R, hw.Rn, hw.T.set pid _, ?_, ?_, hw.Rk⟩
      · intro y hy
        rcases setG_mem hy with hy | hy
        · exact hw.Tw y hy
        · rw [hy]; exact hwnt
      · intro k
        show (findP σ.L k).isSome = (findG (setG σ.T pid _) k).isSome
        rw [findG_setG_some]
        exact hw.keys k
    · have q1' := pT2 nt
      have q2' : (tkXs (setG σ.T pid nt) σ.E).Perm (amB am ac :: (hs2 ++ ZX)) := by have := pX2 nt; rw [hnt] at this ⊢; exact this
      have eC : nt.cells = (⟨⟨root, text, data, (heap : Int) + x.a, []⟩, a2, n, cap2, hs2, am, ac, tr, tc, da⟩ : TK).cells := by rw [hnt]
      rw [← hnt]
      obtain ⟨T', hT'⟩ : ∃ T', T' = setG σ.T pid nt := ⟨_, rfl⟩
      rw [← hT'] at q1' q2'
      have e3 : T'.map GE.kv = σ.T.map GE.kv := by rw [hT']; exact setG_kv
      have pF : ((wkK wb σ.k (ptrB tb) pid uid gid x :: knB σ :: tbB σ.pr σ.mb σ.last :: kvB σ.mb σ.L σ.c :: flB σ.fr σ.fm σ.fc :: rmB σ.fm σ.R σ.rc :: (σ.tm, mapB (T'.map GE.kv) σ.tc) :: (memH σ.m M' ++ kZ σ.L σ.R T' σ.E)) ++ ((b4, .cells [.int .i64 root, .int .i64 (text : Int), .int .i64 (data : Int), .int .i64 ((heap : Int) + x.a), .slice a2 n cap2] 84) :: (b2, .cells (RS.cells ⟨0, 64 * ((text + data + heap : Nat) : Int), 0, [], false⟩) 31) :: hs)).Perm
          ((b4, .cells [.int .i64 root, .int .i64 (text : Int), .int .i64 (data : Int), .int .i64 ((heap : Int) + x.a), .slice a2 n cap2] 84) :: (b2, .cells (RS.cells ⟨0, 64 * ((text + data + heap : Nat) : Int), 0, [], false⟩) 31) :: wkK wb σ.k (ptrB tb) pid uid gid x :: knB σ :: tbB σ.pr σ.mb σ.last :: kvB σ.mb σ.L σ.c :: flB σ.fr σ.fm σ.fc :: rmB σ.fm σ.R σ.rc :: (σ.tm, mapB (σ.T.map GE.kv) σ.tc) :: tkB tb nt :: amB am ac :: (memH σ.m M' ++ (hs ++ (hs2 ++ Y)))) := by
        rw [e3, hY]
        classical
        refine List.perm_iff_count.2 fun x => ?_
        have q1 := q1'.count_eq x
        have q2 := q2'.count_eq x
        simp only [List.count_append, List.count_cons, List.count_nil, Nat.add_zero, Nat.zero_add] at q1 q2 ⊢
        rw [q1, q2]
        ac_rfl
      subst hT'
      exact Sub.ofPermR pF
  · skip
    refine stepA ?_
    intro b4
    refine L_nil ?_; refine ⟨rfl, (by first | exact KeepsH.brk (by decide +kernel) | exact KeepsH.sub subA | exact KeepsH.sub subT), ?_⟩
    refine AS_one 19 rfl (by decide +kernel) rfl ?_
    refine callT ?_; refine ⟨_, _, hf, _, cutT, ?_⟩
    rintro v H' ⟨H1, (⟨h0, -, -⟩ | ⟨-, a2, cap2, hs2, rfl, how2, rfl⟩), rfl⟩
    · exact absurd hM h0
    simp only [List.cons_append, List.nil_append, List.append_assoc]
    refine L_nil ?_; refine ⟨rfl, (by first | exact KeepsH.brk (by decide +kernel) | exact KeepsH.sub subA | exact KeepsH.sub subT), ?_⟩
    refine AS_at 20 (by decide +kernel) ?_; refine takeA ?_
    refine AS_at 21 (by decide +kernel) ?_; refine takeA ?_
    refine AS_at 22 (by decide +kernel) ?_; refine takeA ?_
    refine AS_at 23 (by decide +kernel) ?_; refine takeA ?_
    refine AS_one 25 rfl (by decide +kernel) rfl ?_
    refine stepA ?_
    refine L_nil ?_; refine ⟨rfl, (by first | exact KeepsH.brk (by decide +kernel) | exact KeepsH.sub subA | exact KeepsH.sub subT), ?_⟩
    refine AS_at 26 (by decide +kernel) ?_; refine takeA ?_
    refine AS_at 27 (by decide +kernel) ?_; refine takeA ?_
    refine AS_done (by decide +kernel) ?_
    repeat (first | refine stepA ?_ | intro _)
    refine W_any [wkK wb σ.k (ptrB tb) pid uid gid x, (b4, .cells [.int .i64 root, .int .i64 (text : Int), .int .i64 (data : Int), .int .i64 ((heap : Int) + x.a), .slice a2 n cap2] 84)] [7] rfl ?_
    refine AS_at 0 (by decide +kernel) ?_; refine takeA ?_
    refine AS_at 1 (by decide +kernel) ?_; refine takeA ?_
    refine AS_at 2 (by decide +kernel) ?_; refine takeA ?_
    refine AS_at 3 (by decide +kernel) ?_; refine takeA ?_
    refine AS_at 4 (by decide +kernel) ?_; refine takeA ?_
    refine AS_at 5 (by decide +kernel) ?_; refine takeA ?_
    refine AS_at 6 (by decide +kernel) ?_; refine takeA ?_
    refine AS_one 7 rfl (by decide +kernel) rfl ?_
    refine L_store (cs := [.int .i64 root, .int .i64 (text : Int), .int .i64 (data : Int), .int .i64 ((heap : Int) + x.a), .slice a2 n cap2]) (Ln := (⟨⟨root, text, data, (heap : Int) + x.a, []⟩, a2, n, cap2, hs2, am, ac, tr, tc, da⟩ : TK).cells) evA evA rfl rfl (fun u hu => List.all_eq_true.1 (show List.all [.int .i64 root, .int .i64 (text : Int), .int .i64 (data : Int), .int .i64 ((heap : Int) + x.a), .slice a2 n cap2] (fun u => u.oneCell') = true from rfl) u hu) repA rfl (by simp) ?_
    refine L_nil ?_; refine ⟨rfl, (by first | exact KeepsH.brk (by decide +kernel) | exact KeepsH.sub subA | exact KeepsH.sub subT), ?_⟩
    refine AS_done (by decide +kernel) ?_
    repeat (first | refine stepA ?_ | intro _)
    refine callA ?_; refine ⟨_, _, number_nil (64 * ((text + data + heap : Nat) : Int)), _, cutA, ?_⟩
    rintro v H' ⟨rfl, rfl⟩
    simp only [List.cons_append, List.nil_append]
    repeat (first | refine stepA ?_ | intro _)
    obtain ⟨nt, hnt⟩ : ∃ nt : TK, nt = ⟨⟨root, text, data, (heap : Int) + x.a, []⟩, a2, n, cap2, hs2, am, ac, tr, tc, da⟩ := ⟨_, rfl⟩
    have hwnt : WfT nt := by rw [hnt]; exact ⟨how2, hn, rfl⟩
    (first | refine retA ?_ | refine retB ?_)
    refine ⟨_, ⟨rfl, nt, by rw [hnt], ?_, rfl⟩, ?_⟩
    · refine ⟨hwM, hw.L, hw.R, hw.Rn, hw.T.set pid _, ?_, ?_, hw.Rk⟩
      · intro y hy
        rcases setG_mem hy with hy | hy
        · exact hw.Tw y hy
        · rw [hy]; exact hwnt
      · intro k
        show (findP σ.L k).isSome = (findG (setG σ.T pid _) k).isSome
        rw [findG_setG_some]
        exact hw.keys k
    · have q1' := pT2 nt
      have q2' : (tkXs (setG σ.T pid nt) σ.E).Perm (amB am ac :: (hs2 ++ ZX)) := by have := pX2 nt; rw [hnt] at this ⊢; exact this
      have eC : nt.cells = (⟨⟨root, text, data, (heap : Int) + x.a, []⟩, a2, n, cap2, hs2, am, ac, tr, tc, da⟩ : TK).cells := by rw [hnt]
      rw [← hnt]
      obtain ⟨T', hT'⟩ : ∃ T', T' = setG σ.T pid nt := ⟨_, rfl⟩
      rw [← hT'] at q1' q2'
      have e3 : T'.map GE.kv = σ.T.map GE.kv := by rw [hT']; exact setG_kv
      have pF : ((wkK wb σ.k (ptrB tb) pid uid gid x :: knB σ :: tbB σ.pr σ.mb σ.last :: kvB σ.mb σ.L σ.c :: flB σ.fr σ.fm σ.fc :: rmB σ.fm σ.R σ.rc :: (σ.tm, mapB (T'.map GE.kv) σ.tc) :: (memH σ.m M' ++ kZ σ.L σ.R T' σ.E)) ++ ((b4, .cells [.int .i64 root, .int .i64 (text : Int), .int .i64 (data : Int), .int .i64 ((heap : Int) + x.a), .slice a2 n cap2] 84) :: (b2, .cells (RS.cells ⟨0, 64 * ((text + data + heap : Nat) : Int), 0, [], false⟩) 31) :: hs)).Perm
          ((b4, .cells [.int .i64 root, .int .i64 (text : Int), .int .i64 (data : Int), .int .i64 ((heap : Int) + x.a), .slice a2 n cap2] 84) :: (b2, .cells (RS.cells ⟨0, 64 * ((text + data + heap : Nat) : Int), 0, [], false⟩) 31) :: wkK wb σ.k (ptrB tb) pid uid gid x :: knB σ :: tbB σ.pr σ.mb σ.last :: kvB σ.mb σ.L σ.c :: flB σ.fr σ.fm σ.fc :: rmB σ.fm σ.R σ.rc :: (σ.tm, mapB (σ.T.map GE.kv) σ.tc) :: tkB tb nt :: amB am ac :: (memH σ.m M' ++ (hs ++ (hs2 ++ Y)))) := by
        rw [e3, hY]
        classical
        refine List.perm_iff_count.2 fun x => ?_
        have q1 := q1'.count_eq x
        have q2 := q2'.count_eq x
        simp only [List.count_append, List.count_cons, List.count_nil, Nat.add_zero, Nat.zero_add] at q1 q2 ⊢
        rw [q1, q2]
        ac_rfl
      subst hT'
      exact Sub.ofPermR pF
end
end Go.Proofs.YtcpfmjlceoiofaaGreatDoor

/-
  Slots of pipes: all, isOf, Add, with, Get, Remove, at the first slot.
-/
namespace Go.Proofs.YtcpfmjlceoiofaaGreatDoor
open Go.RowKit
attribute [local irreducible] W L QL PureOp thenQ blockQ retQ Spec IterOk YSpec roundQ scopeQ noGoQ
attribute [local irreducible] AS ASi IterOkC retD retE
set_option maxHeartbeats 6400000
set_option maxRecDepth 4000
/-- the first slot, and the others -/
abbrev slK (b : Nat) (q : Int) (o : Option Addr) (h : Bool) (Z : List Value) : Nat × Blk := (b, .cells (.int .i64 q :: .pointer o :: .bool h :: Z) 165)
/-- seven free slots -/
abbrev slZ : List Value := [.int .i64 0, .pointer none, .bool false, .int .i64 0, .pointer none, .bool false, .int .i64 0, .pointer none, .bool false, .int .i64 0, .pointer none, .bool false, .int .i64 0, .pointer none, .bool false, .int .i64 0, .pointer none, .bool false, .int .i64 0, .pointer none, .bool false]
abbrev spB (b s : Nat) : Nat × Blk := (b, .cells [ptrB s] 61)
theorem slisof_spec (g cap : Nat) (id n : Int) : Spec Tryz.prog 302 [.int .i64 id, .slice (some ⟨g, 0, none⟩) 1 cap] [(g, .cells [.int .i64 n] 3)] fun v H' => v = .bool (decide (n = id)) ∧ H' = [(g, .cells [.int .i64 n] 3)] := by
  refine Spec_body Tryz.func302 rfl Tryz.ntmps302 rfl (fun w0 => ?_)
  repeat (first | refine stepA ?_ | intro _)
  refine W_loop (fun k : Nat => [(0, .int .i64 id), (7, .slice (some ⟨g, 0, none⟩) 1 cap), (8, .int .i64 1), (9, .int .i64 (k : Int))]) (fun _ => [(g, .cells [.int .i64 n] 3)]) (fun k => k ≤ 1 ∧ (k = 1 → n ≠ id)) (fun k => 1 - k) 0 ⟨by omega, fun h => absurd h (by omega)⟩ sublA subA ?_
  rintro k ⟨hk, he⟩
  by_cases h0 : k = 0
  · subst h0
    by_cases h1 : n = id
    · rw [decide_eq_true h1]
      repeat (first | refine stepA ?_ | intro _)
      (first | refine retA ?_ | refine retB ?_); exact ⟨_, ⟨rfl, rfl⟩, subA⟩
    · repeat (first | refine stepA ?_ | intro _)
      exact ⟨rfl, 1, ⟨by omega, fun _ => h1⟩, by omega, sublA, subA⟩
  · obtain rfl : k = 1 := by omega
    rw [decide_eq_false (he rfl)]
    repeat (first | refine stepA ?_ | intro _)
    (first | refine retA ?_ | refine retB ?_); exact ⟨_, ⟨rfl, rfl⟩, subA⟩
theorem slall_spec (s : Nat) : Spec Tryz.prog 214 [ptrB s] [] fun v H' => ∃ b, v = .func (.func 318) #[] #[ptrB b] ∧ H' = [spB b s] := by
  refine Spec_body Tryz.func214 rfl Tryz.ntmps214 rfl (fun w0 => ?_)
  repeat (first | refine stepA ?_ | intro _)
  rename_i b
  (first | refine retA ?_ | refine retB ?_)
  exact ⟨_, ⟨b, rfl, rfl⟩, subA⟩
/-- an iterator that is left in its first round -/
theorem slall_iter (b s : Nat) (q : Int) (hq : 0 ≤ q ∧ q ≤ 4095) (o : Option Addr) (h : Bool) (Z : List Value) : IterOkC Tryz.prog 318 [ptrB b]
    (fun (I J : Unit → Hp → Prop) => (∀ H, I () H → ∃ R, Cut [spB b s, slK s q o h Z] H R) ∧ ∀ H, ¬ J () H)
    (fun _ => True) (fun _ => [.int .i64 (8 * q), .pointer (some ⟨s, 0, none⟩)]) (fun _ => False) () := by
  unfold IterOkC
  rintro y I J S ⟨hA, hN⟩ hy H h0
  obtain ⟨R, hcut⟩ := hA H h0
  refine Spec_body Tryz.func318 rfl Tryz.ntmps318 rfl (fun w0 => ?_)
  refine W_perm hcut.perm ?_
  simp only [List.cons_append, List.nil_append]
  repeat (first | refine stepA ?_ | intro _)
  refine W_loop (fun _ : Unit => [(0, .func (.yield y) #[] #[]), (1, ptrB b), (5, .int .i64 0)]) (fun _ => H) (fun _ => True) (fun _ => 0) () trivial sublA (Sub.ofPerm hcut.perm) ?_
  rintro ⟨⟩ -
  refine W_perm hcut.perm ?_
  simp only [List.cons_append, List.nil_append]
  repeat (first | refine stepA ?_ | intro _)
  have hyk := hy () H h0 trivial
  rw [Int.add_zero]
  refine L_yield rfl (ev_of rfl (by with_reducible rfl)) rfl hyk (R0 := []) ?_ ?_
  · rw [List.append_nil]
    exact hcut.perm.symm
  · rintro b H' hb
    rw [List.append_nil]
    rcases hb with ⟨rfl, hb⟩ | ⟨rfl, hb⟩
    · exact absurd hb (hN _)
    · repeat (first | refine stepA ?_ | intro _)
      (first | refine retA ?_ | refine retB ?_)
      exact ⟨_, .inr hb, Sub.refl _⟩
section
variable {X : Cx} {Q : PostT} {l : St} {ds : List Deferred} {H : Hp}
/-- a range over slots that is left in its first round -/
theorem W_slot {g : Operand} {ps : List Nat} {assign body : Code} {b s : Nat} {q : Int} {o : Option Addr} {h : Bool} {Z : List Value} {Hc : Hp} {cd : Code} (hP : X.P = Tryz.prog) (hro : X.ro = none) (hg : ev l g = some (.func (.func 318) #[] [ptrB b].toArray))
    (hq : 0 ≤ q ∧ q ≤ 4095) (hps : ps.length = 2) (hpn : ∀ p ∈ ps, p < X.n) (hc : ∃ R, Cut [spB b s, slK s q o h Z] Hc R) (hs : Sub Hc H) (Sx : Hp → Prop)
    (hbody : ∀ y w1, W ⟨some y, X.P, X.n, w1, keys Hc⟩ assign
      (fun e l1 ds1 H1 => e = .normal ∧ ∀ w2, W ⟨some y, X.P, X.n, w2, keys H1⟩ body (roundQ (fun (_ : Unit) _ => False) (fun c H => c = cd ∧ Sx H) ()) l1 ds1 H1) (zips ps [.int .i64 (8 * q), .pointer (some ⟨s, 0, none⟩)] l) [] Hc)
    (hstop : ∀ D H1, Sx H1 → W X cd Q l ({ target := .collected D, args := #[] } :: ds) ((D, .oth (.deferred (some []))) :: H1)) :
    W X (.rangeFunc g ps.toArray assign body) Q l ds H := by
  obtain ⟨R, hc⟩ := hc
  have inst : FnOk Tryz.prog 318 := inferInstance
  have inst2 : FnOk X.P 318 := by rw [hP]; exact inst
  have it := slall_iter b s q hq o h Z
  rw [← hP] at it
  refine W_rangeC hro hg inst2 it (fun s => hps.symm) hpn (fun _ H => H = Hc) (fun _ _ => False) (fun c H => c = cd ∧ Sx H) (fun u v => ⟨?_, ?_⟩) ⟨_, rfl, hs⟩ ?_ ?_ ?_
  · rintro H ⟨_, rfl, rfl⟩
    cases hc with
    | cons h1 h2 =>
      cases h2 with
      | cons h3 h4 =>
        exact ⟨_, .cons (.there (.there h1)) (.cons (.there (.there h3)) .nil)⟩
  · rintro H ⟨_, h, _⟩
    exact h
  · rintro y k H w1 rfl -
    exact hbody y w1
  · rintro D k H h
    exact h.elim
  · rintro D c H ⟨rfl, h⟩
    exact hstop D H h
end
section
variable (s : Nat) (q : Int) (Z : List Value)
theorem sladd_spec (hq : 0 ≤ q ∧ q ≤ 4095) (v : Option Addr) : Spec Tryz.prog 121 [ptrB s, .pointer v] [slK s q none false Z] fun u H' => u = .tuple #[.int .i64 (8 * q), .int .i64 0] ∧ H' = [slK s q v true Z] := by
  refine Spec_body Tryz.func121 rfl Tryz.ntmps121 rfl (fun w0 => ?_)
  repeat (first | refine stepA ?_ | intro _)
  rename_i b3 b4 b5
  refine callA ?_; refine ⟨_, _, slall_spec s, _, cutA, ?_⟩
  rintro u H' ⟨b, rfl, rfl⟩
  simp only [List.cons_append, List.nil_append]
  repeat (first | refine stepA ?_ | intro _)
  refine W_slot (b := b) (s := s) (q := q) (o := none) (h := false) (Z := Z) (Hc := [spB b s, (b5, .cells [.int .i64 0] 29), (b4, .cells [.int .i64 0] 3), (b3, .cells [.pointer v] 98), slK s q none false Z]) (cd := .ret) rfl rfl (ev_of rfl (by with_reducible rfl)) hq rfl (by simp) ⟨_, cutA⟩ subA (fun H => H = [(b5, .cells [.int .i64 0] 29), (b4, .cells [.int .i64 (8 * q)] 3), slK s q v true Z]) ?_ ?_
  · intro y w1
    repeat (first | refine stepA ?_ | intro _)
    refine ⟨rfl, fun w2 => ?_⟩
    repeat (first | refine stepA ?_ | intro _)
    exact roundQ_r ⟨rfl, rfl⟩ subT
  · rintro D H1 rfl
    repeat (first | refine stepA ?_ | intro _)
    (first | refine retA ?_ | refine retB ?_); exact ⟨_, ⟨rfl, rfl⟩, subA⟩
theorem slnext_spec (hq : 0 ≤ q ∧ q ≤ 4095) (o : Option Addr) (h : Bool) : Spec Tryz.prog 218 [ptrB s] [slK s q o h Z] fun _ H' => H' = [slK s (if q = 4095 then 0 else q + 1) o h Z] := by
  refine Spec_body Tryz.func218 rfl Tryz.ntmps218 rfl (fun w0 => ?_)
  by_cases h1 : q = 4095
  · subst h1
    rw [if_pos rfl]
    repeat (first | refine stepA ?_ | intro _)
    (first | refine retA ?_ | refine retB ?_)
    exact ⟨_, rfl, subA⟩
  · rw [if_neg h1]
    have e : (q + 1) % 4096 = q + 1 := by omega
    repeat (first | refine stepA ?_ | intro _)
    rw [e]
    (first | refine retA ?_ | refine retB ?_)
    exact ⟨_, rfl, subA⟩
abbrev ppB (b : Nat) (o : Option Addr) : Nat × Blk := (b, .cells [.pointer o] 98)
theorem slget1_spec (bo : Nat) (o o2 : Option Addr) (h : Bool) : Spec Tryz.prog 187 [ptrB s, ptrB bo] [slK s q o h Z, ppB bo o2] fun _ H' => H' = [slK s q o h Z, ppB bo o] := by
  refine Spec_body Tryz.func187 rfl Tryz.ntmps187 rfl (fun w0 => ?_)
  repeat (first | refine stepA ?_ | intro _)
  (first | refine retA ?_ | refine retB ?_)
  exact ⟨_, rfl, subA⟩
/-- something is done with the first slot -/
theorem slwith_spec (hq : 0 ≤ q ∧ q ≤ 4095) (o : Option Addr) {f : FuncId} (inst : FnOk Tryz.prog f) (caps : List Value) (Hd : Hp) (Rd : Hp → Prop)
    (hd : Spec Tryz.prog f (ptrB s :: caps) (slK s q o true Z :: Hd) fun _ H' => Rd H') :
    Spec Tryz.prog 186 [ptrB s, .int .i64 (8 * q), .func (.func f) #[] caps.toArray] (slK s q o true Z :: Hd) fun v H' => v = .int .i64 0 ∧ Rd H' := by
  refine Spec_body Tryz.func186 rfl Tryz.ntmps186 rfl (fun w0 => ?_)
  repeat (first | refine stepA ?_ | intro _)
  rename_i b4 b5 b7
  refine callA ?_; refine ⟨_, _, slall_spec s, _, cutA, ?_⟩
  rintro u H' ⟨b, rfl, rfl⟩
  simp only [List.cons_append, List.nil_append]
  repeat (first | refine stepA ?_ | intro _)
  refine W_slot (b := b) (s := s) (q := q) (o := o) (h := true) (Z := Z) (Hc := spB b s :: (b7, .cells [.int .i64 100] 29) :: (b5, .cells [.func (.func f) #[] caps.toArray] 348) :: (b4, .cells [.int .i64 (8 * q)] 3) :: slK s q o true Z :: Hd) (cd := .exit 0) rfl rfl (ev_of rfl (by with_reducible rfl)) hq rfl (by simp) ⟨_, cutA⟩ subT (fun H => ∃ H2, Rd H2 ∧ H = (b7, .cells [.int .i64 0] 29) :: H2) ?_ ?_
  · intro y w1
    repeat (first | refine stepA ?_ | intro _)
    refine ⟨rfl, fun w2 => ?_⟩
    repeat (first | refine stepA ?_ | intro _)
    rename_i g
    refine callA ?_; refine ⟨_, _, slisof_spec g 1 (8 * q) (8 * q), _, cutA, ?_⟩
    rintro v H' ⟨rfl, rfl⟩
    simp only [List.cons_append, List.nil_append, decide_true]
    repeat (first | refine stepA ?_ | intro _)
    refine callT ?_
    refine ⟨_, _, hd, _, cutT, ?_⟩
    rintro v H' hR
    simp only [List.cons_append, List.nil_append]
    repeat (first | refine stepA ?_ | intro _)
    exact roundQ_e ⟨rfl, _, hR, rfl⟩ subT
  · rintro D H1 ⟨H2, hR, rfl⟩
    repeat (first | refine stepA ?_ | intro _)
    (first | refine retA ?_ | refine retB ?_)
    exact ⟨_, ⟨rfl, hR⟩, subT⟩
theorem slget_spec (hq : 0 ≤ q ∧ q ≤ 4095) (o : Option Addr) : Spec Tryz.prog 97 [ptrB s, .int .i64 (8 * q)] [slK s q o true Z] fun v H' => v = .tuple #[.pointer o, .int .i64 0] ∧ H' = [slK s q o true Z] := by
  have inst : FnOk Tryz.prog 187 := inferInstance
  refine Spec_body Tryz.func97 rfl Tryz.ntmps97 rfl (fun w0 => ?_)
  repeat (first | refine stepA ?_ | intro _)
  rename_i b6
  refine callA ?_; refine ⟨_, _, slwith_spec s q Z hq o inst [ptrB b6] [ppB b6 none] (fun H' => H' = [slK s q o true Z, ppB b6 o]) (slget1_spec s q Z b6 o none true), _, cutA, ?_⟩
  rintro v H' ⟨rfl, rfl⟩
  simp only [List.cons_append, List.nil_append]
  repeat (first | refine stepA ?_ | intro _)
  (first | refine retA ?_ | refine retB ?_); exact ⟨_, ⟨rfl, rfl⟩, subA⟩
theorem slremove1_spec (hq : 0 ≤ q ∧ q ≤ 4095) (bn bo : Nat) (o : Option Addr) : Spec Tryz.prog 217 [ptrB s, ptrB bn, ptrB bo] [slK s q o true Z, ppB bn none, ppB bo none] fun _ H' => H' = [slK s (if q = 4095 then 0 else q + 1) none false Z, ppB bn none, ppB bo o] := by
  refine Spec_body Tryz.func217 rfl Tryz.ntmps217 rfl (fun w0 => ?_)
  repeat (first | refine stepA ?_ | intro _)
  refine W_any [slK s q o true Z, ppB bn none] [10, 13] rfl ?_
  refine AS_at 0 (by decide +kernel) ?_; refine takeA ?_
  refine AS_at 1 (by decide +kernel) ?_; refine takeA ?_
  refine AS_at 2 (by decide +kernel) ?_; refine takeA ?_
  refine AS_at 3 (by decide +kernel) ?_; refine takeA ?_
  refine AS_at 4 (by decide +kernel) ?_; refine takeA ?_
  refine AS_at 5 (by decide +kernel) ?_; refine takeA ?_
  refine AS_at 6 (by decide +kernel) ?_; refine takeA ?_
  refine AS_one 7 rfl (by decide +kernel) rfl ?_
  refine stepA ?_
  refine L_nil ?_; refine ⟨rfl, (by first | exact KeepsH.brk (by decide +kernel) | exact KeepsH.sub subA | exact KeepsH.sub subT), ?_⟩
  refine AS_at 8 (by decide +kernel) ?_; refine takeA ?_
  refine AS_at 9 (by decide +kernel) ?_; refine takeA ?_
  refine AS_one 10 rfl (by decide +kernel) rfl ?_
  refine stepA ?_
  refine L_nil ?_; refine ⟨rfl, (by first | exact KeepsH.brk (by decide +kernel) | exact KeepsH.sub subA | exact KeepsH.sub subT), ?_⟩
  refine AS_at 11 (by decide +kernel) ?_; refine takeA ?_
  refine AS_at 12 (by decide +kernel) ?_; refine takeA ?_
  refine AS_one 13 rfl (by decide +kernel) rfl ?_
  refine stepA ?_
  refine L_nil ?_; refine ⟨rfl, (by first | exact KeepsH.brk (by decide +kernel) | exact KeepsH.sub subA | exact KeepsH.sub subT), ?_⟩
  refine AS_done (by decide +kernel) ?_
  repeat (first | refine stepA ?_ | intro _)
  refine callA ?_; refine ⟨_, _, slnext_spec s q Z hq none false, _, cutA, ?_⟩
  rintro v H' rfl
  simp only [List.cons_append, List.nil_append]
  repeat (first | refine stepA ?_ | intro _)
  (first | refine retA ?_ | refine retB ?_)
  exact ⟨_, rfl, subA⟩
theorem slremove_spec (hq : 0 ≤ q ∧ q ≤ 4095) (o : Option Addr) : Spec Tryz.prog 124 [ptrB s, .int .i64 (8 * q)] [slK s q o true Z] fun v H' => v = .tuple #[.pointer o, .int .i64 0] ∧ H' = [slK s (if q = 4095 then 0 else q + 1) none false Z] := by
  have inst : FnOk Tryz.prog 217 := inferInstance
  refine Spec_body Tryz.func124 rfl Tryz.ntmps124 rfl (fun w0 => ?_)
  repeat (first | refine stepA ?_ | intro _)
  rename_i b6 b7
  refine callA ?_; refine ⟨_, _, slwith_spec s q Z hq o inst [ptrB b7, ptrB b6] [ppB b7 none, ppB b6 none] (fun H' => H' = [slK s (if q = 4095 then 0 else q + 1) none false Z, ppB b7 none, ppB b6 o]) (slremove1_spec s q Z hq b7 b6 o), _, cutA, ?_⟩
  rintro v H' ⟨rfl, rfl⟩
  simp only [List.cons_append, List.nil_append]
  repeat (first | refine stepA ?_ | intro _)
  (first | refine retA ?_ | refine retB ?_); exact ⟨_, ⟨rfl, rfl⟩, subA⟩
end
end Go.Proofs.YtcpfmjlceoiofaaGreatDoor
