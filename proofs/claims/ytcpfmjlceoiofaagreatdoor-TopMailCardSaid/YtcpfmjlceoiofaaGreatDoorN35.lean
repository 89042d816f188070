/-
  Joined texts; each begins with its own sentence.
-/
import Derived.Test.YtcpfmjlceoiofaaGreatDoorN34
set_option linter.unusedSimpArgs false
set_option linter.unusedVariables false
set_option linter.unusedSectionVars false
/-
  The kernel: what it holds; worker, deeds.
-/
namespace Go.Proofs.YtcpfmjlceoiofaaGreatDoor
open Go.RowKit
attribute [local irreducible] W L QL PureOp thenQ blockQ retQ Spec IterOk YSpec roundQ scopeQ noGoQ
attribute [local irreducible] AS ASi IterOkC retD retE
set_option maxHeartbeats 6400000
set_option maxRecDepth 4000
/-- what a process has beside its entry: its space (its attachments' slice, with the blocks behind it), the map of what is attached (none), its last result, its call, its bytes -/
structure TK where
  sp : SpM
  a : Option Addr
  n : Nat
  cap : Nat
  hs : Hp
  am : Nat
  ac : Nat
  r : RS
  c : CallV
  da : List UInt8
abbrev TK.cells (t : TK) : List Value := [.int .i64 t.sp.root, .int .i64 t.sp.text, .int .i64 t.sp.data, .int .i64 t.sp.heap, .slice t.a t.n t.cap, .map (some t.am), .slice none 0 0, .int .i64 t.r.e, .int .i64 t.r.n, .int .i64 t.r.m, str t.r.s, .bool t.r.w, .int .i64 t.c.no, .int .i64 t.c.f, .int .i64 t.c.a, .int .i64 t.c.b, .int .i64 t.c.c, .int .i64 t.c.d, str t.c.s, str t.da]
abbrev tkB (b : Nat) (t : TK) : Nat × Blk := (b, .cells t.cells 88)
abbrev amB (am ac : Nat) : Nat × Blk := (am, mapB [] ac)
def tkX (t : TK) : Hp := amB t.am t.ac :: t.hs
/-- what tasks have, and what else lies there -/
def tkXs (T : List (GE TK)) (E : Hp) : Hp := (T.flatMap fun x => tkX x.v) ++ E
structure WfT (t : TK) : Prop where
  own : oA t.a t.n t.cap (atC t.sp.atts) t.hs
  n : t.n ≤ 1000
  none : t.sp.atts = []
theorem tkXs_at (E : Hp) {T : List (GE TK)} {k : Int} {x : GE TK} (h : findG T k = some x) : ∃ Z, (tkXs T E).Perm (tkX x.v ++ Z) ∧ (∀ p, (tkXs (setG T k p) E).Perm (tkX p ++ Z)) ∧ (tkXs (delG T k) E).Perm Z := by
  obtain ⟨_, A, B, rfl, _, h4, h5⟩ := findG_split h
  have key : ∀ (y : Hp), (tkXs A [] ++ (y ++ tkXs B E)).Perm (y ++ (tkXs A [] ++ tkXs B E)) := fun y => by
    rw [← List.append_assoc, ← List.append_assoc]
    exact List.Perm.append_right _ List.perm_append_comm
  refine ⟨tkXs A [] ++ tkXs B E, ?_, fun p => ?_, ?_⟩
  · simp only [tkXs, List.flatMap_append, List.flatMap_cons, List.append_nil, List.append_assoc] at key ⊢
    exact key _
  · rw [h4 p]
    simp only [tkXs, List.flatMap_append, List.flatMap_cons, List.append_nil, List.append_assoc] at key ⊢
    exact key _
  · rw [h5]
    simp only [tkXs, List.flatMap_append, List.append_nil, List.append_assoc]
    exact List.Perm.refl _
theorem tkXs_add (E : Hp) (T : List (GE TK)) (y : GE TK) : (tkXs (T ++ [y]) E).Perm (tkX y.v ++ tkXs T E) := by
  simp only [tkXs, List.flatMap_append, List.flatMap_cons, List.flatMap_nil, List.append_nil, List.append_assoc]
  rw [← List.append_assoc, ← List.append_assoc]
  exact List.Perm.append_right _ List.perm_append_comm
/-- a kernel -/
structure KS where
  k : Nat
  pr : Nat
  mb : Nat
  fr : Nat
  fm : Nat
  tm : Nat
  pi : Nat
  se : Nat
  qu : Nat
  sg : Nat
  m : MemP
  M : List Frm
  L : List PE
  last : Int
  c : Nat
  R : List RowE
  rc : Nat
  T : List (GE TK)
  tc : Nat
  fc : Int
  E : Hp
  wa : Option Addr := none
  wn : Nat := 0
  wc : Nat := 0
abbrev knB (σ : KS) : Nat × Blk := (σ.k, .cells [σ.m.ptr, ptrB σ.pr, ptrB σ.fr, ptrB σ.pi, ptrB σ.se, ptrB σ.qu, ptrB σ.sg, .map (some σ.tm), .slice σ.wa σ.wn σ.wc] 67)
abbrev tmB (tm : Nat) (T : List (GE TK)) (tc : Nat) : Nat × Blk := (tm, mapB (T.map GE.kv) tc)
/-- the opaque part of a kernel's memory -/
abbrev kZ (L : List PE) (R : List RowE) (T : List (GE TK)) (E : Hp) : Hp := prB L ++ (blkG rowK R ++ (blkG tkB T ++ tkXs T E))
abbrev kH (σ : KS) : Hp := knB σ :: tbB σ.pr σ.mb σ.last :: kvB σ.mb σ.L σ.c :: flB σ.fr σ.fm σ.fc :: rmB σ.fm σ.R σ.rc :: tmB σ.tm σ.T σ.tc :: (memH σ.m σ.M ++ kZ σ.L σ.R σ.T σ.E)
structure WfK (σ : KS) : Prop where
  M : WfM σ.M
  L : WfP σ.L σ.last σ.c
  R : WfG σ.R σ.rc
  Rn : rowsNone σ.R
  T : WfG σ.T σ.tc
  Tw : ∀ x ∈ σ.T, WfT x.v
  keys : ∀ k, (findP σ.L k).isSome = (findG σ.T k).isSome
  Rk : ∀ x ∈ σ.R, x.k ≤ σ.last
  idle : σ.wn = 0
abbrev wkK (b k : Nat) (tp : Value) (pid uid gid : Int) (x : CallV) : Nat × Blk := (b, .cells [ptrB k, tp, .int .i64 pid, .int .i64 uid, .int .i64 gid, .int .i64 x.no, .int .i64 x.f, .int .i64 x.a, .int .i64 x.b, .int .i64 x.c, .int .i64 x.d, str x.s, str []] 81)
section
variable (σ : KS)
theorem worker_spec (pid : Int) (x : CallV) {p : PE} {t : GE TK} (hp : findP σ.L pid = some p) (ht : findG σ.T pid = some t) :
    Spec Tryz.prog 23 [ptrB σ.k, .int .i64 pid, .agg x.cells.toArray] (kH σ) fun v H' => ∃ b, v = ptrB b ∧ H' = wkK b σ.k t.ptr pid p.p.uid p.p.gid x :: kH σ := by
  refine Spec_body Tryz.func23 rfl Tryz.ntmps23 rfl (fun w0 => ?_)
  repeat (first | refine stepA ?_ | intro _)
  rename_i b5
  have hg := (prget_spec σ.pr σ.mb σ.last σ.L σ.c pid).frame (blkG rowK σ.R ++ (blkG tkB σ.T ++ tkXs σ.T σ.E))
  simp only [hp, fndE, Option.elim, Option.map_some, Option.getD_some, List.cons_append, List.nil_append] at hg
  refine callT ?_; refine ⟨_, _, hg, _, cutT, ?_⟩
  rintro v H' ⟨H1, ⟨rfl, rfl⟩, rfl⟩
  simp only [List.cons_append, List.nil_append]
  repeat (first | refine stepA ?_ | intro _)
  rename_i b7
  refine W_any [knB σ, tmB σ.tm σ.T σ.tc, (b7, .cells p.p.cells 48), (b5, .cells x.cells 34)] [] rfl ?_
  refine AS_at 0 (by decide +kernel) ?_; refine takeA ?_
  refine AS_at 1 (by decide +kernel) ?_; refine takeA ?_
  refine AS_at 2 (by decide +kernel) ?_; refine takeA ?_
  refine AS_at 3 (by decide +kernel) ?_; refine takeA ?_
  refine AS_at 4 (by decide +kernel) ?_; refine takeA ?_
  refine AS_at 5 (by decide +kernel) ?_; refine takeA ?_
  refine AS_at 7 (by decide +kernel) ?_; refine takeA ?_
  refine AS_at 8 (by decide +kernel) ?_; refine takeA ?_
  refine AS_at 9 (by decide +kernel) ?_; refine takeA ?_
  refine AS_at 10 (by decide +kernel) ?_; refine takeA ?_
  refine AS_one 6 rfl (by decide +kernel) rfl ?_
  (first | (apply L_P; (· exact rfl); (· exact rfl)) | (apply QL_P; (· exact rfl))); (· (apply P_lookup; (· exact evA); (· exact evA); (· exact pullA)))
  rw [getL_g, ht]
  refine L_nil ?_; refine ⟨rfl, (by first | exact KeepsH.brk (by decide +kernel) | exact KeepsH.sub subA | exact KeepsH.sub subT), ?_⟩
  refine AS_at 11 (by decide +kernel) ?_; refine takeA ?_
  refine AS_one 12 rfl (by decide +kernel) rfl ?_
  refine stepA ?_
  intro b
  refine L_nil ?_; refine ⟨rfl, (by first | exact KeepsH.brk (by decide +kernel) | exact KeepsH.sub subA | exact KeepsH.sub subT), ?_⟩
  refine AS_at 13 (by decide +kernel) ?_; refine takeA ?_
  refine AS_done (by decide +kernel) ?_
  repeat (first | refine stepA ?_ | intro _)
  (first | refine retA ?_ | refine retB ?_)
  exact ⟨_, ⟨b, rfl, rfl⟩, subT⟩
end
end Go.Proofs.YtcpfmjlceoiofaaGreatDoor

/-
  The kernel: fork.
-/
namespace Go.Proofs.YtcpfmjlceoiofaaGreatDoor
open Go.RowKit
attribute [local irreducible] W L QL PureOp thenQ blockQ retQ Spec IterOk YSpec roundQ scopeQ noGoQ
attribute [local irreducible] AS ASi IterOkC retD retE
set_option maxHeartbeats 12800000
set_option maxRecDepth 4000
theorem findP_add {L : List PE} {y : PE} {j : Int} : findP (L ++ [y]) j = (findP L j).or (if j = y.p.pid then some y else none) := by
  induction L with
  | nil => simp [findP]
  | cons z L ih =>
    simp only [List.cons_append, findP]
    by_cases hj : j = z.p.pid
    · rw [if_pos hj, if_pos hj]; rfl
    · rw [if_neg hj, if_neg hj, ih]
theorem forkGo_wf {src dst : Int} : ∀ {ps : List Nat} {M : List Frm} {us : List (Option Nat)}, WfM M → WfM (forkGo M src dst us ps).2.1
  | [], _, _, h => h
  | p :: ps, M, us, h => by
    rw [forkGo]
    have h1 := forkStep_wf h src dst us p
    split
    · exact forkGo_wf h1
    · exact h1
theorem forkM_wf {M : List Frm} (h : WfM M) (src : Int) : WfM (forkM M src).2.2 := by
  rw [forkM]
  split
  · exact h
  · simp only
    split
    · exact forkGo_wf (allocS_wf h)
    · exact undoAll_wf (forkGo_wf (allocS_wf h)) _ _
/-- a kernel behind a fork -/
abbrev forkK (σ : KS) (root : Int) (p : PE) (pid : Int) (b nb : Nat) (nt : TK) (R' : List RowE) (rc' : Nat) : KS :=
  { σ with M := (forkM σ.M root).2.2, L := σ.L ++ [⟨b, σ.c, childP p pid σ.last⟩], last := σ.last + 1, c := σ.c + 1, R := R', rc := rc', T := σ.T ++ [⟨nb, σ.tc, σ.last + 1, nt⟩], tc := σ.tc + 1 }
section
variable (σ : KS)
theorem kfork_spec (hw : WfK σ) (wb : Nat) (uid gid : Int) (pid : Int) (x : CallV) {p : PE} {t : GE TK} (hp : findP σ.L pid = some p) (hrun : p.p.state = 1) (ht : findG σ.T pid = some t) (hM : (forkM σ.M t.v.sp.root).1 = 0) (hlen : σ.L.length < 16) (hlast : σ.last < 30000) :
    Spec Tryz.prog 50 [ptrB wb] (wkK wb σ.k t.ptr pid uid gid x :: kH σ) fun v H' => ∃ b nb nt R' rc', v = .tuple #[RS.val ⟨0, σ.last + 1, 0, [], false⟩, .nilIface] ∧ nt.sp = { t.v.sp with root := (forkM σ.M t.v.sp.root).2.1 } ∧ (findG R' (σ.last + 1)).isSome = true ∧ WfK (forkK σ t.v.sp.root p pid b nb nt R' rc') ∧ H' = wkK wb σ.k t.ptr pid uid gid x :: kH (forkK σ t.v.sp.root p pid b nb nt R' rc') := by
  obtain ⟨tb, tw, tk, tv⟩ := t
  simp only at hM
  obtain ⟨ZT, pT, -, -⟩ := blkG_at tkB ht
  obtain ⟨ZX, pX, -, -⟩ := tkXs_at σ.E ht
  have hwt := hw.Tw _ (findG_mem ht)
  simp only [tkX, List.cons_append] at pT pX hwt
  obtain ⟨Y, hY⟩ : ∃ Y, Y = prB σ.L ++ (blkG rowK σ.R ++ (ZT ++ ZX)) := ⟨_, rfl⟩
  have pZ : (kZ σ.L σ.R σ.T σ.E).Perm (tkB tb tv :: amB tv.am tv.ac :: (tv.hs ++ Y)) := by
    rw [hY]
    classical
    refine List.perm_iff_count.2 fun x => ?_
    have q1 := pT.count_eq x
    have q2 := pX.count_eq x
    simp only [List.count_append, List.count_cons] at q1 q2 ⊢
    rw [q1, q2]
    ac_rfl
  have pY1 : ∀ hs2, (tv.hs ++ (hs2 ++ Y)).Perm (prB σ.L ++ (tv.hs ++ (hs2 ++ (blkG rowK σ.R ++ (ZT ++ ZX))))) := by intro hs2; rw [hY]; exact permA
  have hlast1 := hw.L.last
  have hpid : 1 ≤ pid ∧ pid ≤ σ.last := by have := hw.L.rng p (findP_mem hp); rwa [findP_pid hp] at this
  have hRn : findG σ.R (σ.last + 1) = none := findG_none.2 fun y hy e => by have := hw.Rk y hy; omega
  have hTn : findG σ.T (σ.last + 1) = none := by
    have := hw.keys (σ.last + 1)
    rw [findP_last hw.L] at this
    cases h : findG σ.T (σ.last + 1) with
    | none => rfl
    | some y => rw [h] at this; simp at this
  have hwF : ∀ (b nb : Nat) (nt : TK) (R' : List RowE) (rc' : Nat), WfT nt → WfG R' rc' → rowsNone R' → (∀ k, k ≠ pid → k ≠ σ.last + 1 → findG R' k = findG σ.R k) → WfK (forkK σ tv.sp.root p pid b nb nt R' rc') := by
    intro b nb nt R' rc' h1 h2 h3 h4
    refine ⟨forkM_wf hw.M _, hw.L.fork hlen hlast b rfl, h2, h3, hw.T.add nb nt hTn, ?_, ?_, ?_, hw.idle⟩
    · intro y hy
      rcases List.mem_append.1 hy with hy | hy
      · exact hw.Tw y hy
      · obtain rfl := List.mem_singleton.1 hy
        exact h1
    · intro k
      have := hw.keys k
      show (findP (σ.L ++ [⟨b, σ.c, childP p pid σ.last⟩]) k).isSome = (findG (σ.T ++ [⟨nb, σ.tc, σ.last + 1, nt⟩]) k).isSome
      rw [findG_add, findP_add]
      by_cases hk : k = σ.last + 1
      · rw [if_pos hk, if_pos hk]
        simp
      · rw [if_neg hk, if_neg hk, Option.or_none, Option.or_none, this]
    · intro y hy
      show y.k ≤ σ.last + 1
      by_cases e1 : y.k = pid
      · omega
      · by_cases e2 : y.k = σ.last + 1
        · omega
        · have h5 := h4 y.k e1 e2
          cases h6 : findG R' y.k with
          | none => exact absurd rfl (findG_none.1 h6 y hy)
          | some z =>
            rw [h6] at h5
            have := hw.Rk z (findG_mem h5.symm)
            rw [findG_key h5.symm] at this
            omega
  have hE : pforkE σ.L σ.last pid = 0 := by
    simp only [pforkE, runE, hp, Option.elim, hrun, if_true, ne_eq, not_true_eq_false, if_false]
    rw [if_neg (by omega)]
  refine Spec_body Tryz.func50 rfl Tryz.ntmps50 rfl (fun w0 => ?_)
  try simp only [List.cons_append, List.nil_append]
  refine W_tail (T := kZ σ.L σ.R σ.T σ.E) pZ ?_
  simp only [List.cons_append, List.nil_append]
  repeat (first | refine stepA ?_ | intro _)
  rename_i b0
  have hf := (fork_sp σ.m hw.M tv.sp hwt.own hwt.n).frame Y
  simp only [List.cons_append, List.nil_append, List.append_assoc] at hf
  refine W_any [knB σ, wkK wb σ.k (ptrB tb) pid uid gid x, tkB tb tv] [] rfl ?_
  refine AS_at 0 (by decide +kernel) ?_; refine takeA ?_
  refine AS_at 1 (by decide +kernel) ?_; refine takeA ?_
  refine AS_at 2 (by decide +kernel) ?_; refine takeA ?_
  refine AS_at 3 (by decide +kernel) ?_; refine takeA ?_
  refine AS_at 4 (by decide +kernel) ?_; refine takeA ?_
  refine AS_at 5 (by decide +kernel) ?_; refine takeA ?_
  refine AS_at 6 (by decide +kernel) ?_; refine takeA ?_
  refine AS_at 7 (by decide +kernel) ?_; refine takeA ?_
  refine AS_at 8 (by decide +kernel) ?_; refine takeA ?_
  refine AS_at 9 (by decide +kernel) ?_; refine takeA ?_
  refine AS_at 10 (by decide +kernel) ?_; refine takeA ?_
  refine AS_at 11 (by decide +kernel) ?_; refine takeA ?_
  refine AS_at 12 (by decide +kernel) ?_; refine takeA ?_
  refine AS_at 13 (by decide +kernel) ?_; refine takeA ?_
  refine AS_two 14 18 rfl (by decide +kernel) rfl rfl ?_ ?_
  · skip
    refine callT ?_; refine ⟨_, _, hf, _, cutT, ?_⟩
    rintro v H' ⟨H1, (⟨h0, -, -⟩ | ⟨-, a2, cap2, hs2, rfl, how2, rfl⟩), rfl⟩
    · exact absurd hM h0
    simp only [List.cons_append, List.nil_append, List.append_assoc]
    refine L_nil ?_; refine ⟨rfl, (by first | exact KeepsH.brk (by decide +kernel) | exact KeepsH.sub subA | exact KeepsH.sub subT), ?_⟩
    refine AS_at 15 (by decide +kernel) ?_; refine takeA ?_
    refine AS_at 16 (by decide +kernel) ?_; refine takeA ?_
    refine AS_at 17 (by decide +kernel) ?_; refine takeA ?_
    refine AS_one 18 rfl (by decide +kernel) rfl ?_
    refine stepA ?_
    intro b4
    refine L_nil ?_; refine ⟨rfl, (by first | exact KeepsH.brk (by decide +kernel) | exact KeepsH.sub subA | exact KeepsH.sub subT), ?_⟩
    refine AS_one 19 rfl (by decide +kernel) rfl ?_
    refine stepA ?_
    refine L_nil ?_; refine ⟨rfl, (by first | exact KeepsH.brk (by decide +kernel) | exact KeepsH.sub subA | exact KeepsH.sub subT), ?_⟩
    refine AS_at 20 (by decide +kernel) ?_; refine takeA ?_
    refine AS_done (by decide +kernel) ?_
    repeat (first | refine stepA ?_ | intro _)
    refine W_tail (T := tv.hs ++ (hs2 ++ Y)) (pY1 hs2) ?_
    simp only [List.cons_append, List.nil_append]
    have hF := (prfork_spec σ.pr σ.mb hw.L pid).frame (tv.hs ++ (hs2 ++ (blkG rowK σ.R ++ (ZT ++ ZX))))
    simp only [List.cons_append, List.nil_append, List.append_assoc] at hF
    refine W_any [knB σ, wkK wb σ.k (ptrB tb) pid uid gid x] [] rfl ?_
    refine AS_at 0 (by decide +kernel) ?_; refine takeA ?_
    refine AS_at 1 (by decide +kernel) ?_; refine takeA ?_
    refine AS_at 2 (by decide +kernel) ?_; refine takeA ?_
    refine AS_at 3 (by decide +kernel) ?_; refine takeA ?_
    refine AS_at 4 (by decide +kernel) ?_; refine takeA ?_
    refine AS_at 5 (by decide +kernel) ?_; refine takeA ?_
    refine AS_at 6 (by decide +kernel) ?_; refine takeA ?_
    refine AS_at 7 (by decide +kernel) ?_; refine takeA ?_
    refine AS_at 8 (by decide +kernel) ?_; refine takeA ?_
    refine AS_at 9 (by decide +kernel) ?_; refine takeA ?_
    refine AS_at 10 (by decide +kernel) ?_; refine takeA ?_
    refine AS_one 11 rfl (by decide +kernel) rfl ?_
    refine callT ?_; refine ⟨_, _, hF, _, cutT, ?_⟩
    rintro v H' ⟨H1, (⟨h0, -, -⟩ | ⟨-, rfl, p2, b, hp2, rfl⟩), rfl⟩
    · exact absurd hE h0
    obtain rfl : p = p2 := by rw [hp] at hp2; exact Option.some.inj hp2
    simp only [List.cons_append, List.nil_append, List.append_assoc]
    refine L_nil ?_; refine ⟨rfl, (by first | exact KeepsH.brk (by decide +kernel) | exact KeepsH.sub subA | exact KeepsH.sub subT), ?_⟩
    refine AS_at 12 (by decide +kernel) ?_; refine takeA ?_
    refine AS_at 13 (by decide +kernel) ?_; refine takeA ?_
    refine AS_at 14 (by decide +kernel) ?_; refine takeA ?_
    refine AS_at 15 (by decide +kernel) ?_; refine takeA ?_
    refine AS_at 16 (by decide +kernel) ?_; refine takeA ?_
    refine AS_done (by decide +kernel) ?_
    obtain ⟨L', hL'⟩ : ∃ L', L' = σ.L ++ [(⟨b, σ.c, childP p pid σ.last⟩ : PE)] := ⟨_, rfl⟩
    rw [← hL']
    repeat (first | refine stepA ?_ | intro _)
    refine W_tail (T := prB L' ++ (tv.hs ++ (hs2 ++ (blkG rowK σ.R ++ (ZT ++ ZX))))) (T' := blkG rowK σ.R ++ (prB L' ++ (tv.hs ++ (hs2 ++ (ZT ++ ZX))))) permA ?_
    simp only [List.cons_append, List.nil_append]
    have hFi := (fifork_none σ.fr σ.fm σ.fc hw.R hw.Rn pid (σ.last + 1) hpid.1 (by omega) (by omega) hRn).frame (prB L' ++ (tv.hs ++ (hs2 ++ (ZT ++ ZX))))
    simp only [List.cons_append, List.nil_append, List.append_assoc] at hFi
    refine W_any [knB σ, wkK wb σ.k (ptrB tb) pid uid gid x] [] rfl ?_
    refine AS_at 0 (by decide +kernel) ?_; refine takeA ?_
    refine AS_at 1 (by decide +kernel) ?_; refine takeA ?_
    refine AS_at 2 (by decide +kernel) ?_; refine takeA ?_
    refine AS_at 3 (by decide +kernel) ?_; refine takeA ?_
    refine AS_at 4 (by decide +kernel) ?_; refine takeA ?_
    refine AS_at 5 (by decide +kernel) ?_; refine takeA ?_
    refine AS_at 6 (by decide +kernel) ?_; refine takeA ?_
    refine AS_at 7 (by decide +kernel) ?_; refine takeA ?_
    refine AS_at 8 (by decide +kernel) ?_; refine takeA ?_
    refine AS_at 9 (by decide +kernel) ?_; refine takeA ?_
    refine AS_at 10 (by decide +kernel) ?_; refine takeA ?_
    refine AS_at 11 (by decide +kernel) ?_; refine takeA ?_
    refine AS_one 12 rfl (by decide +kernel) rfl ?_
    refine callT ?_; refine ⟨_, _, hFi, _, cutT, ?_⟩
    rintro v H' ⟨H1, ⟨rfl, R', rc', hwR, hnR, hfR, hsR, rfl⟩, rfl⟩
    simp only [List.cons_append, List.nil_append, List.append_assoc]
    refine L_nil ?_; refine ⟨rfl, (by first | exact KeepsH.brk (by decide +kernel) | exact KeepsH.sub subA | exact KeepsH.sub subT), ?_⟩
    refine AS_done (by decide +kernel) ?_
    repeat (first | refine stepA ?_ | intro _)
    refine L_rangeMap (Ls := []) (c := tv.ac) rfl (ev_of rfl (by with_reducible rfl)) pullA (fun it => ?_)
    repeat (first | refine stepA ?_ | intro _)
    refine W_loop (fun _ : Unit => [(0, ptrB wb), (2, ptrB b0), (3, .nilIface), (4, ptrB b4), (6, .int .i64 (σ.last + 1)), (84, ptrB it)]) (fun _ => (it, itB tv.am tv.ac []) :: (b4, .cells (spC { tv.sp with root := (forkM σ.M tv.sp.root).2.1 } a2 tv.n cap2) 84) :: (b0, .cells rs0.cells 31) :: wkK wb σ.k (ptrB tb) pid uid gid x :: knB σ :: tmB σ.tm σ.T σ.tc :: tkB tb tv :: amB tv.am tv.ac :: tbB σ.pr σ.mb (σ.last + 1) :: kvB σ.mb L' (σ.c + 1) :: flB σ.fr σ.fm σ.fc :: rmB σ.fm R' rc' :: (memH σ.m (forkM σ.M tv.sp.root).2.2 ++ (blkG rowK R' ++ (prB L' ++ (tv.hs ++ (hs2 ++ (ZT ++ ZX))))))) (fun _ => True) (fun _ => 0) () trivial sublA subT ?_
    rintro ⟨⟩ -
    simp only [List.cons_append, List.nil_append]
    repeat (first | refine stepA ?_ | intro _)
    refine L_next (seen := []) (Ls := []) (c := tv.ac) (r := tv.am) (it := it) rfl (ev_of rfl (by with_reducible rfl)) pullA pullA (fun b' => repA) (by simp) ?_ ?_
    · intro z hz
      simp at hz
    intro _
    repeat (first | refine stepA ?_ | intro _)
    refine W_any [knB σ, wkK wb σ.k (ptrB tb) pid uid gid x, tkB tb tv, (b4, .cells (spC { tv.sp with root := (forkM σ.M tv.sp.root).2.1 } a2 tv.n cap2) 84)] [19] rfl ?_
    refine AS_at 0 (by decide +kernel) ?_; refine takeA ?_
    refine AS_at 1 (by decide +kernel) ?_; refine takeA ?_
    refine AS_at 2 (by decide +kernel) ?_; refine takeA ?_
    refine AS_at 3 (by decide +kernel) ?_; refine takeA ?_
    refine AS_at 4 (by decide +kernel) ?_; refine takeA ?_
    refine AS_at 5 (by decide +kernel) ?_; refine takeA ?_
    refine AS_at 6 (by decide +kernel) ?_; refine takeA ?_
    refine AS_at 7 (by decide +kernel) ?_; refine takeA ?_
    refine AS_at 8 (by decide +kernel) ?_; refine takeA ?_
    refine AS_at 9 (by decide +kernel) ?_; refine takeA ?_
    refine AS_at 10 (by decide +kernel) ?_; refine takeA ?_
    refine AS_at 11 (by decide +kernel) ?_; refine takeA ?_
    refine AS_at 12 (by decide +kernel) ?_; refine takeA ?_
    refine AS_at 13 (by decide +kernel) ?_; refine takeA ?_
    refine AS_at 14 (by decide +kernel) ?_; refine takeA ?_
    refine AS_at 15 (by decide +kernel) ?_; refine takeA ?_
    refine AS_one 16 rfl (by decide +kernel) rfl ?_
    refine callA ?_; refine ⟨_, _, clone_int tv.am [] tv.ac, _, cutA, ?_⟩
    rintro v H' ⟨nam, rfl, rfl⟩
    simp only [List.cons_append, List.nil_append, List.append_assoc]
    refine L_nil ?_; refine ⟨rfl, (by first | exact KeepsH.brk (by decide +kernel) | exact KeepsH.sub subA | exact KeepsH.sub subT), ?_⟩
    refine AS_at 17 (by decide +kernel) ?_; refine takeA ?_
    refine AS_one 18 rfl (by decide +kernel) rfl ?_
    refine stepA ?_
    intro nb
    refine L_nil ?_; refine ⟨rfl, (by first | exact KeepsH.brk (by decide +kernel) | exact KeepsH.sub subA | exact KeepsH.sub subT), ?_⟩
    refine AS_one 19 rfl (by decide +kernel) rfl ?_
    refine L_mapNew (v := ptrB nb) (i := σ.last + 1) (Ls := σ.T.map GE.kv) (c := σ.tc) evA evA evA (by rw [getL_g, hTn]; rfl) repA ?_
    refine L_nil ?_; refine ⟨rfl, (by first | exact KeepsH.brk (by decide +kernel) | exact KeepsH.sub subA | exact KeepsH.sub subT), ?_⟩
    refine AS_done (by decide +kernel) ?_
    repeat (first | refine stepA ?_ | intro _)
    refine callA ?_; refine ⟨_, _, number_nil (σ.last + 1), _, cutA, ?_⟩
    rintro v H' ⟨rfl, rfl⟩
    simp only [List.cons_append, List.nil_append]
    repeat (first | refine stepA ?_ | intro _)
    (first | refine retA ?_ | refine retB ?_)
    obtain ⟨nt, hnt⟩ : ∃ nt : TK, nt = ⟨{ tv.sp with root := (forkM σ.M tv.sp.root).2.1 }, a2, tv.n, cap2, hs2, nam, tv.ac, rs0, ⟨0, 0, 0, 0, 0, 0, []⟩, []⟩ := ⟨_, rfl⟩
    have hwnt : WfT nt := by rw [hnt]; exact ⟨how2, hwt.n, hwt.none⟩
    refine ⟨_, ⟨b, nb, nt, R', rc', rfl, by rw [hnt], hsR, ?_, rfl⟩, ?_⟩
    · exact hwF b nb nt R' rc' hwnt hwR hnR hfR
    · have e1 : blkG tkB (σ.T ++ [(⟨nb, σ.tc, σ.last + 1, nt⟩ : GE TK)]) = blkG tkB σ.T ++ [tkB nb nt] := by simp [blkG]
      have e2 : (tkXs (σ.T ++ [(⟨nb, σ.tc, σ.last + 1, nt⟩ : GE TK)]) σ.E).Perm (amB nam tv.ac :: (hs2 ++ tkXs σ.T σ.E)) := by
        refine (tkXs_add σ.E σ.T _).trans ?_
        rw [hnt]
        exact List.Perm.refl _
      have e3 : (σ.T ++ [(⟨nb, σ.tc, σ.last + 1, nt⟩ : GE TK)]).map GE.kv = σ.T.map GE.kv ++ [⟨σ.last + 1, ptrB nb, σ.tc⟩] := by simp [GE.kv]
      have pF : ((wkK wb σ.k (ptrB tb) pid uid gid x :: knB σ :: tbB σ.pr σ.mb (σ.last + 1) :: kvB σ.mb L' (σ.c + 1) :: flB σ.fr σ.fm σ.fc :: rmB σ.fm R' rc' :: (σ.tm, mapB ((σ.T ++ [(⟨nb, σ.tc, σ.last + 1, nt⟩ : GE TK)]).map GE.kv) (σ.tc + 1)) :: (memH σ.m (forkM σ.M tv.sp.root).2.2 ++ kZ L' R' (σ.T ++ [(⟨nb, σ.tc, σ.last + 1, nt⟩ : GE TK)]) σ.E)) ++ [(it, itB tv.am tv.ac []), (b4, .cells (spC { tv.sp with root := (forkM σ.M tv.sp.root).2.1 } a2 tv.n cap2) 84), (b0, .cells (RS.cells ⟨0, σ.last + 1, 0, [], false⟩) 31)]).Perm
          (tkB nb nt :: amB nam tv.ac :: amB tv.am tv.ac :: (it, itB tv.am tv.ac []) :: (b4, .cells (spC { tv.sp with root := (forkM σ.M tv.sp.root).2.1 } a2 tv.n cap2) 84) :: (b0, .cells (RS.cells ⟨0, σ.last + 1, 0, [], false⟩) 31) :: wkK wb σ.k (ptrB tb) pid uid gid x :: knB σ :: (σ.tm, mapB (σ.T.map GE.kv ++ [⟨σ.last + 1, ptrB nb, σ.tc⟩]) (σ.tc + 1)) :: tkB tb tv :: tbB σ.pr σ.mb (σ.last + 1) :: kvB σ.mb L' (σ.c + 1) :: flB σ.fr σ.fm σ.fc :: rmB σ.fm R' rc' :: (memH σ.m (forkM σ.M tv.sp.root).2.2 ++ (blkG rowK R' ++ (prB L' ++ (tv.hs ++ (hs2 ++ (ZT ++ ZX))))))) := by
        rw [e3, kZ, e1]
        classical
        refine List.perm_iff_count.2 fun x => ?_
        have q1 := pT.count_eq x
        have q2 := pX.count_eq x
        have q3 := e2.count_eq x
        simp only [List.count_append, List.count_cons, List.count_nil, Nat.add_zero, Nat.zero_add] at q1 q2 q3 ⊢
        rw [q3, q1, q2]
        ac_rfl
      subst hL' hnt
      exact Sub.ofPermR pF
  · skip
    refine stepA ?_
    intro b4
    refine L_nil ?_; refine ⟨rfl, (by first | exact KeepsH.brk (by decide +kernel) | exact KeepsH.sub subA | exact KeepsH.sub subT), ?_⟩
    refine AS_one 14 rfl (by decide +kernel) rfl ?_
    refine callT ?_; refine ⟨_, _, hf, _, cutT, ?_⟩
    rintro v H' ⟨H1, (⟨h0, -, -⟩ | ⟨-, a2, cap2, hs2, rfl, how2, rfl⟩), rfl⟩
    · exact absurd hM h0
    simp only [List.cons_append, List.nil_append, List.append_assoc]
    refine L_nil ?_; refine ⟨rfl, (by first | exact KeepsH.brk (by decide +kernel) | exact KeepsH.sub subA | exact KeepsH.sub subT), ?_⟩
    refine AS_at 15 (by decide +kernel) ?_; refine takeA ?_
    refine AS_at 16 (by decide +kernel) ?_; refine takeA ?_
    refine AS_at 17 (by decide +kernel) ?_; refine takeA ?_
    refine AS_one 19 rfl (by decide +kernel) rfl ?_
    refine stepA ?_
    refine L_nil ?_; refine ⟨rfl, (by first | exact KeepsH.brk (by decide +kernel) | exact KeepsH.sub subA | exact KeepsH.sub subT), ?_⟩
    refine AS_at 20 (by decide +kernel) ?_; refine takeA ?_
    refine AS_done (by decide +kernel) ?_
    repeat (first | refine stepA ?_ | intro _)
    refine W_tail (T := tv.hs ++ (hs2 ++ Y)) (pY1 hs2) ?_
    simp only [List.cons_append, List.nil_append]
    have hF := (prfork_spec σ.pr σ.mb hw.L pid).frame (tv.hs ++ (hs2 ++ (blkG rowK σ.R ++ (ZT ++ ZX))))
    simp only [List.cons_append, List.nil_append, List.append_assoc] at hF
    refine W_any [knB σ, wkK wb σ.k (ptrB tb) pid uid gid x] [] rfl ?_
    refine AS_at 0 (by decide +kernel) ?_; refine takeA ?_
    refine AS_at 1 (by decide +kernel) ?_; refine takeA ?_
    refine AS_at 2 (by decide +kernel) ?_; refine takeA ?_
    refine AS_at 3 (by decide +kernel) ?_; refine takeA ?_
    refine AS_at 4 (by decide +kernel) ?_; refine takeA ?_
    refine AS_at 5 (by decide +kernel) ?_; refine takeA ?_
    refine AS_at 6 (by decide +kernel) ?_; refine takeA ?_
    refine AS_at 7 (by decide +kernel) ?_; refine takeA ?_
    refine AS_at 8 (by decide +kernel) ?_; refine takeA ?_
    refine AS_at 9 (by decide +kernel) ?_; refine takeA ?_
    refine AS_at 10 (by decide +kernel) ?_; refine takeA ?_
    refine AS_one 11 rfl (by decide +kernel) rfl ?_
    refine callT ?_; refine ⟨_, _, hF, _, cutT, ?_⟩
    rintro v H' ⟨H1, (⟨h0, -, -⟩ | ⟨-, rfl, p2, b, hp2, rfl⟩), rfl⟩
    · exact absurd hE h0
    obtain rfl : p = p2 := by rw [hp] at hp2; exact Option.some.inj hp2
    simp only [List.cons_append, List.nil_append, List.append_assoc]
    refine L_nil ?_; refine ⟨rfl, (by first | exact KeepsH.brk (by decide +kernel) | exact KeepsH.sub subA | exact KeepsH.sub subT), ?_⟩
    refine AS_at 12 (by decide +kernel) ?_; refine takeA ?_
    refine AS_at 13 (by decide +kernel) ?_; refine takeA ?_
    refine AS_at 14 (by decide +kernel) ?_; refine takeA ?_
    refine AS_at 15 (by decide +kernel) ?_; refine takeA ?_
    refine AS_at 16 (by decide +kernel) ?_; refine takeA ?_
    refine AS_done (by decide +kernel) ?_
    obtain ⟨L', hL'⟩ : ∃ L', L' = σ.L ++ [(⟨b, σ.c, childP p pid σ.last⟩ : PE)] := ⟨_, rfl⟩
    rw [← hL']
    repeat (first | refine stepA ?_ | intro _)
    refine W_tail (T := prB L' ++ (tv.hs ++ (hs2 ++ (blkG rowK σ.R ++ (ZT ++ ZX))))) (T' := blkG rowK σ.R ++ (prB L' ++ (tv.hs ++ (hs2 ++ (ZT ++ ZX))))) permA ?_
    simp only [List.cons_append, List.nil_append]
    have hFi := (fifork_none σ.fr σ.fm σ.fc hw.R hw.Rn pid (σ.last + 1) hpid.1 (by omega) (by omega) hRn).frame (prB L' ++ (tv.hs ++ (hs2 ++ (ZT ++ ZX))))
    simp only [List.cons_append, List.nil_append, List.append_assoc] at hFi
    refine W_any [knB σ, wkK wb σ.k (ptrB tb) pid uid gid x] [] rfl ?_
    refine AS_at 0 (by decide +kernel) ?_; refine takeA ?_
    refine AS_at 1 (by decide +kernel) ?_; refine takeA ?_
    refine AS_at 2 (by decide +kernel) ?_; refine takeA ?_
    refine AS_at 3 (by decide +kernel) ?_; refine takeA ?_
    refine AS_at 4 (by decide +kernel) ?_; refine takeA ?_
    refine AS_at 5 (by decide +kernel) ?_; refine takeA ?_
    refine AS_at 6 (by decide +kernel) ?_; refine takeA ?_
    refine AS_at 7 (by decide +kernel) ?_; refine takeA ?_
    refine AS_at 8 (by decide +kernel) ?_; refine takeA ?_
    refine AS_at 9 (by decide +kernel) ?_; refine takeA ?_
    refine AS_at 10 (by decide +kernel) ?_; refine takeA ?_
    refine AS_at 11 (by decide +kernel) ?_; refine takeA ?_
    refine AS_one 12 rfl (by decide +kernel) rfl ?_
    refine callT ?_; refine ⟨_, _, hFi, _, cutT, ?_⟩
    rintro v H' ⟨H1, ⟨rfl, R', rc', hwR, hnR, hfR, hsR, rfl⟩, rfl⟩
    simp only [List.cons_append, List.nil_append, List.append_assoc]
    refine L_nil ?_; refine ⟨rfl, (by first | exact KeepsH.brk (by decide +kernel) | exact KeepsH.sub subA | exact KeepsH.sub subT), ?_⟩
    refine AS_done (by decide +kernel) ?_
    repeat (first | refine stepA ?_ | intro _)
    refine L_rangeMap (Ls := []) (c := tv.ac) rfl (ev_of rfl (by with_reducible rfl)) pullA (fun it => ?_)
    repeat (first | refine stepA ?_ | intro _)
    refine W_loop (fun _ : Unit => [(0, ptrB wb), (2, ptrB b0), (3, .nilIface), (4, ptrB b4), (6, .int .i64 (σ.last + 1)), (84, ptrB it)]) (fun _ => (it, itB tv.am tv.ac []) :: (b4, .cells (spC { tv.sp with root := (forkM σ.M tv.sp.root).2.1 } a2 tv.n cap2) 84) :: (b0, .cells rs0.cells 31) :: wkK wb σ.k (ptrB tb) pid uid gid x :: knB σ :: tmB σ.tm σ.T σ.tc :: tkB tb tv :: amB tv.am tv.ac :: tbB σ.pr σ.mb (σ.last + 1) :: kvB σ.mb L' (σ.c + 1) :: flB σ.fr σ.fm σ.fc :: rmB σ.fm R' rc' :: (memH σ.m (forkM σ.M tv.sp.root).2.2 ++ (blkG rowK R' ++ (prB L' ++ (tv.hs ++ (hs2 ++ (ZT ++ ZX))))))) (fun _ => True) (fun _ => 0) () trivial sublA subT ?_
    rintro ⟨⟩ -
    simp only [List.cons_append, List.nil_append]
    repeat (first | refine stepA ?_ | intro _)
    refine L_next (seen := []) (Ls := []) (c := tv.ac) (r := tv.am) (it := it) rfl (ev_of rfl (by with_reducible rfl)) pullA pullA (fun b' => repA) (by simp) ?_ ?_
    · intro z hz
      simp at hz
    intro _
    repeat (first | refine stepA ?_ | intro _)
    refine W_any [knB σ, wkK wb σ.k (ptrB tb) pid uid gid x, tkB tb tv, (b4, .cells (spC { tv.sp with root := (forkM σ.M tv.sp.root).2.1 } a2 tv.n cap2) 84)] [19] rfl ?_
    refine AS_at 0 (by decide +kernel) ?_; refine takeA ?_
    refine AS_at 1 (by decide +kernel) ?_; refine takeA ?_
    refine AS_at 2 (by decide +kernel) ?_; refine takeA ?_
    refine AS_at 3 (by decide +kernel) ?_; refine takeA ?_
    refine AS_at 4 (by decide +kernel) ?_; refine takeA ?_
    refine AS_at 5 (by decide +kernel) ?_; refine takeA ?_
    refine AS_at 6 (by decide +kernel) ?_; refine takeA ?_
    refine AS_at 7 (by decide +kernel) ?_; refine takeA ?_
    refine AS_at 8 (by decide +kernel) ?_; refine takeA ?_
    refine AS_at 9 (by decide +kernel) ?_; refine takeA ?_
    refine AS_at 10 (by decide +kernel) ?_; refine takeA ?_
    refine AS_at 11 (by decide +kernel) ?_; refine takeA ?_
    refine AS_at 12 (by decide +kernel) ?_; refine takeA ?_
    refine AS_at 13 (by decide +kernel) ?_; refine takeA ?_
    refine AS_at 14 (by decide +kernel) ?_; refine takeA ?_
    refine AS_at 15 (by decide +kernel) ?_; refine takeA ?_
    refine AS_one 16 rfl (by decide +kernel) rfl ?_
    refine callA ?_; refine ⟨_, _, clone_int tv.am [] tv.ac, _, cutA, ?_⟩
    rintro v H' ⟨nam, rfl, rfl⟩
    simp only [List.cons_append, List.nil_append, List.append_assoc]
    refine L_nil ?_; refine ⟨rfl, (by first | exact KeepsH.brk (by decide +kernel) | exact KeepsH.sub subA | exact KeepsH.sub subT), ?_⟩
    refine AS_at 17 (by decide +kernel) ?_; refine takeA ?_
    refine AS_one 18 rfl (by decide +kernel) rfl ?_
    refine stepA ?_
    intro nb
    refine L_nil ?_; refine ⟨rfl, (by first | exact KeepsH.brk (by decide +kernel) | exact KeepsH.sub subA | exact KeepsH.sub subT), ?_⟩
    refine AS_one 19 rfl (by decide +kernel) rfl ?_
    refine L_mapNew (v := ptrB nb) (i := σ.last + 1) (Ls := σ.T.map GE.kv) (c := σ.tc) evA evA evA (by rw [getL_g, hTn]; rfl) repA ?_
    refine L_nil ?_; refine ⟨rfl, (by first | exact KeepsH.brk (by decide +kernel) | exact KeepsH.sub subA | exact KeepsH.sub subT), ?_⟩
    refine AS_done (by decide +kernel) ?_
    repeat (first | refine stepA ?_ | intro _)
    refine callA ?_; refine ⟨_, _, number_nil (σ.last + 1), _, cutA, ?_⟩
    rintro v H' ⟨rfl, rfl⟩
    simp only [List.cons_append, List.nil_append]
    repeat (first | refine stepA ?_ | intro _)
    (first | refine retA ?_ | refine retB ?_)
    obtain ⟨nt, hnt⟩ : ∃ nt : TK, nt = ⟨{ tv.sp with root := (forkM σ.M tv.sp.root).2.1 }, a2, tv.n, cap2, hs2, nam, tv.ac, rs0, ⟨0, 0, 0, 0, 0, 0, []⟩, []⟩ := ⟨_, rfl⟩
    have hwnt : WfT nt := by rw [hnt]; exact ⟨how2, hwt.n, hwt.none⟩
    refine ⟨_, ⟨b, nb, nt, R', rc', rfl, by rw [hnt], hsR, ?_, rfl⟩, ?_⟩
    · exact hwF b nb nt R' rc' hwnt hwR hnR hfR
    · have e1 : blkG tkB (σ.T ++ [(⟨nb, σ.tc, σ.last + 1, nt⟩ : GE TK)]) = blkG tkB σ.T ++ [tkB nb nt] := by simp [blkG]
      have e2 : (tkXs (σ.T ++ [(⟨nb, σ.tc, σ.last + 1, nt⟩ : GE TK)]) σ.E).Perm (amB nam tv.ac :: (hs2 ++ tkXs σ.T σ.E)) := by
        refine (tkXs_add σ.E σ.T _).trans ?_
        rw [hnt]
        exact List.Perm.refl _
      have e3 : (σ.T ++ [(⟨nb, σ.tc, σ.last + 1, nt⟩ : GE TK)]).map GE.kv = σ.T.map GE.kv ++ [⟨σ.last + 1, ptrB nb, σ.tc⟩] := by simp [GE.kv]
      have pF : ((wkK wb σ.k (ptrB tb) pid uid gid x :: knB σ :: tbB σ.pr σ.mb (σ.last + 1) :: kvB σ.mb L' (σ.c + 1) :: flB σ.fr σ.fm σ.fc :: rmB σ.fm R' rc' :: (σ.tm, mapB ((σ.T ++ [(⟨nb, σ.tc, σ.last + 1, nt⟩ : GE TK)]).map GE.kv) (σ.tc + 1)) :: (memH σ.m (forkM σ.M tv.sp.root).2.2 ++ kZ L' R' (σ.T ++ [(⟨nb, σ.tc, σ.last + 1, nt⟩ : GE TK)]) σ.E)) ++ [(it, itB tv.am tv.ac []), (b4, .cells (spC { tv.sp with root := (forkM σ.M tv.sp.root).2.1 } a2 tv.n cap2) 84), (b0, .cells (RS.cells ⟨0, σ.last + 1, 0, [], false⟩) 31)]).Perm
          (tkB nb nt :: amB nam tv.ac :: amB tv.am tv.ac :: (it, itB tv.am tv.ac []) :: (b4, .cells (spC { tv.sp with root := (forkM σ.M tv.sp.root).2.1 } a2 tv.n cap2) 84) :: (b0, .cells (RS.cells ⟨0, σ.last + 1, 0, [], false⟩) 31) :: wkK wb σ.k (ptrB tb) pid uid gid x :: knB σ :: (σ.tm, mapB (σ.T.map GE.kv ++ [⟨σ.last + 1, ptrB nb, σ.tc⟩]) (σ.tc + 1)) :: tkB tb tv :: tbB σ.pr σ.mb (σ.last + 1) :: kvB σ.mb L' (σ.c + 1) :: flB σ.fr σ.fm σ.fc :: rmB σ.fm R' rc' :: (memH σ.m (forkM σ.M tv.sp.root).2.2 ++ (blkG rowK R' ++ (prB L' ++ (tv.hs ++ (hs2 ++ (ZT ++ ZX))))))) := by
        rw [e3, kZ, e1]
        classical
        refine List.perm_iff_count.2 fun x => ?_
        have q1 := pT.count_eq x
        have q2 := pX.count_eq x
        have q3 := e2.count_eq x
        simp only [List.count_append, List.count_cons, List.count_nil, Nat.add_zero, Nat.zero_add] at q1 q2 q3 ⊢
        rw [q3, q1, q2]
        ac_rfl
      subst hL' hnt
      exact Sub.ofPermR pF
end
end Go.Proofs.YtcpfmjlceoiofaaGreatDoor

/-
  The kernel: what nobody has: undo.Ids, leaves, closes; ends.
-/
namespace Go.Proofs.YtcpfmjlceoiofaaGreatDoor
open Go.RowKit
attribute [local irreducible] W L QL PureOp thenQ blockQ retQ Spec IterOk YSpec roundQ scopeQ noGoQ
attribute [local irreducible] AS ASi IterOkC retD retE
set_option maxHeartbeats 12800000
set_option maxRecDepth 4000
theorem Cut.skip {u : Nat × Blk} : ∀ {A H R : Hp}, Cut A H R → Cut A (u :: H) (u :: R)
  | _, _, _, .nil => .nil
  | _, _, _, .cons h k => .cons (.there h) k.skip
/-- an iterator that yields nothing -/
def IterNil (P : Program) (gf : FuncId) (cap : List Value) (Hc : Hp) : Prop := ∀ y, Spec P gf (.func (.yield y) #[] #[] :: cap) Hc (fun _ H' => H' = Hc)
section
variable {X : Cx} {Q : PostT} {l : St} {ds : List Deferred} {H : Hp}
theorem W_rangeNil {g : Operand} {ps : List Nat} {assign body : Code} {gf : FuncId} {cap : List Value} {Hc Hi : Hp} (hro : X.ro = none) (hg : ev l g = some (.func (.func gf) #[] cap.toArray)) (T : FnOk X.P gf) (hit : IterNil X.P gf cap Hi)
    (hpn : ∀ p ∈ ps, p < X.n) (hc : ∃ R, Cut Hi Hc R) (hs : Sub Hc H)
    (hdone : ∀ D, Q .normal l ({ target := .collected D, args := #[] } :: ds) ((D, .oth (.deferred (some []))) :: Hc)) :
    W X (.rangeFunc g ps.toArray assign body) Q l ds H := by
  obtain ⟨R, hc⟩ := hc
  have it : IterOkC X.P gf cap (fun (I _ : Unit → Hp → Prop) => ∀ s H, I s H → ∃ R, Cut Hi H R) (fun _ => False) (fun _ => ps.map fun _ => Value.nilFunc) (fun _ => True) () := by
    unfold IterOkC
    rintro y I J S hC hy H h0
    obtain ⟨R, hcut⟩ := hC () H h0
    refine Spec.perm hcut.perm (((hit y).frame R).permR ?_)
    rintro v H1 ⟨H2, rfl, rfl⟩
    exact ⟨H, .inl ⟨(), trivial, h0⟩, hcut.perm.symm⟩
  refine W_rangeC hro hg T it (fun s => by simp) hpn (fun _ H => H = Hc) (fun _ H => H = Hc) (fun _ _ => False) (fun u v => ?_) ⟨_, rfl, hs⟩ ?_ ?_ ?_
  · rintro s H ⟨_, rfl, rfl⟩
    exact ⟨u :: v :: R, hc.skip.skip⟩
  · rintro y s H w1 rfl h
    exact h.elim
  · rintro D s H _ rfl
    exact hdone D
  · rintro D c H h
    exact h.elim
end
end Go.Proofs.YtcpfmjlceoiofaaGreatDoor

/-
  The kernel: ends.
-/
namespace Go.Proofs.YtcpfmjlceoiofaaGreatDoor
open Go.RowKit
attribute [local irreducible] W L QL PureOp thenQ blockQ retQ Spec IterOk YSpec roundQ scopeQ noGoQ
attribute [local irreducible] AS ASi IterOkC retD retE
set_option maxHeartbeats 12800000
set_option maxRecDepth 4000
theorem findP_mapP {L : List PE} {f : PR → PR} (hf : ∀ p, (f p).pid = p.pid) (j : Int) : findP (mapP L f) j = (findP L j).map fun x => { x with p := f x.p } := by
  induction L with
  | nil => rfl
  | cons x L ih =>
    simp only [mapP, List.map_cons, findP, hf] at ih ⊢
    split
    · rfl
    · exact ih
theorem findG_setG_some {α : Type} {L : List (GE α)} {k j : Int} {p : α} : (findG (setG L k p) j).isSome = (findG L j).isSome := by
  induction L with
  | nil => rfl
  | cons x L ih =>
    rw [setG]
    by_cases hk : k = x.k
    · rw [if_pos hk]
      simp only [findG]
      split <;> rfl
    · rw [if_neg hk]
      simp only [findG]
      split
      · rfl
      · exact ih
theorem setG_mem {α : Type} {L : List (GE α)} {k : Int} {p : α} {x : GE α} (h : x ∈ setG L k p) : x ∈ L ∨ x.v = p := by
  induction L with
  | nil => cases h
  | cons y L ih =>
    rw [setG] at h
    split at h
    · rcases List.mem_cons.1 h with rfl | h
      · exact .inr rfl
      · exact .inl (List.mem_cons_of_mem _ h)
    · rcases List.mem_cons.1 h with rfl | h
      · exact .inl List.mem_cons_self
      · exact (ih h).imp (List.mem_cons_of_mem _) id
section
variable (σ : KS)
end
end Go.Proofs.YtcpfmjlceoiofaaGreatDoor

/-
  The kernel: exit, wait.
-/
namespace Go.Proofs.YtcpfmjlceoiofaaGreatDoor
open Go.RowKit
attribute [local irreducible] W L QL PureOp thenQ blockQ retQ Spec IterOk YSpec roundQ scopeQ noGoQ
attribute [local irreducible] AS ASi IterOkC retD retE
set_option maxHeartbeats 12800000
set_option maxRecDepth 4000
section
variable (σ : KS)
end
end Go.Proofs.YtcpfmjlceoiofaaGreatDoor

/-
  The kernel: deeds, reads, again where nobody waits.
-/
namespace Go.Proofs.YtcpfmjlceoiofaaGreatDoor
open Go.RowKit
section rules
variable {X : Cx} {Q : PostT} {l : St} {ds : List Deferred} {H : Hp} {ops : Array Oper} {rest : List Oper}
variable {d ty : Nat} {pos : String} {after : Array Edge}
/-- deeds: numbers and functions, the last one first -/
abbrev deedV (f wb : Nat) : Value := .func (.func f) [ptrB wb].toArray #[]
def dlR (wb : Nat) : List (Int × Nat) → List KV
  | [] => []
  | x :: D => dlR wb D ++ [⟨x.1, deedV x.2 wb, D.length⟩]
def dB (D : List (Int × Nat)) (wb : Nat) : Blk := mapB (dlR wb D) D.length
theorem dlR_keys (wb : Nat) : ∀ (D : List (Int × Nat)) (y : KV), y ∈ dlR wb D → ∃ x ∈ D, y.k = x.1
  | [], y, h => by cases h
  | x :: D, y, h => by
    rcases List.mem_append.1 h with h | h
    · obtain ⟨z, hz, e⟩ := dlR_keys wb D y h
      exact ⟨z, List.mem_cons_of_mem _ hz, e⟩
    · exact ⟨x, List.mem_cons_self, by rw [List.mem_singleton.1 h]⟩
theorem dlR_none {wb : Nat} {D : List (Int × Nat)} {i : Int} (h : D.all (fun x => !decide (x.1 = i)) = true) : getL (dlR wb D) i = none := by
  have : findL i (dlR wb D) 0 = none := findL_none.2 fun y hy e => by
    obtain ⟨x, hx, e2⟩ := dlR_keys wb D y hy
    have := List.all_eq_true.1 h x hx
    simp [← e2, e] at this
  rw [getL, this]
  rfl
theorem L_insD {x ix y : Operand} {t k e r f wb : Nat} {i : Int} {D : List (Int × Nat)} {H' : Hp} [T : TyMap X.P t k e]
    (h : L X ops rest Q l ds H') (hx : ev l x = some (.map (some r)) := by exact evA) (hi : ev l ix = some (.int .i64 i) := by exact evA) (hy : ev l y = some (deedV f wb) := by exact evA)
    (hp : Rep H r (dB D wb) (dB ((i, f) :: D) wb) H' := by exact repA) (hin : D.all (fun x => !decide (x.1 = i)) = true := by decide +kernel) :
    L X ops ({ dst := none, op := .insert t x ix y, type := ty, pos, after, guard := none } :: rest) Q l ds H :=
  L_insNew (v := deedV f wb) hx hi hy (dlR_none hin) hp h
end rules
open Go.RowKit
attribute [local irreducible] W L QL PureOp thenQ blockQ retQ Spec IterOk YSpec roundQ scopeQ noGoQ
attribute [local irreducible] AS ASi IterOkC retD retE
set_option maxHeartbeats 12800000
set_option maxRecDepth 8000
theorem deeds_spec (wb : Nat) : Spec Tryz.prog 26 [ptrB wb] [] fun v H' => ∃ mb Ls c, v = .map (some mb) ∧ H' = [(mb, mapB Ls c)] ∧
    getL Ls 1 = some (deedV 50 wb) ∧ getL Ls 3 = some (deedV 52 wb) ∧ getL Ls 4 = some (deedV 53 wb) ∧
    getL Ls 5 = some (deedV 54 wb) ∧ getL Ls 7 = some (deedV 56 wb) ∧ getL Ls 10 = some (deedV 59 wb) := by
  refine Spec_body Tryz.func26 rfl Tryz.ntmps26 rfl (fun w0 => ?_)
  repeat (first | refine stepA ?_ | intro _)
  apply L_makeMap
  · exact rfl
  intro mb
  change L _ _ _ _ _ _ ((mb, dB [] wb) :: [])
  repeat (first | refine stepA ?_ | refine L_insD ?_)
  (first | refine retA ?_ | refine retB ?_)
  exact ⟨_, ⟨mb, _, _, rfl, rfl, by kernel_rfl, by kernel_rfl, by kernel_rfl, by kernel_rfl, by kernel_rfl, by kernel_rfl⟩, subA⟩
theorem reads_none (wb k : Nat) (tp : Value) (pid uid gid : Int) (x : CallV) (h1 : x.no ≠ 12) (h2 : x.no ≠ 16) (h3 : x.no ≠ 19) : Spec Tryz.prog 25 [ptrB wb] [wkK wb k tp pid uid gid x] fun v H' => v = .nilIface ∧ H' = [wkK wb k tp pid uid gid x] := by
  refine Spec_body Tryz.func25 rfl Tryz.ntmps25 rfl (fun w0 => ?_)
  repeat (first | refine stepA ?_ | intro _)
  (first | refine retA ?_ | refine retB ?_); exact ⟨_, ⟨rfl, rfl⟩, subA⟩
abbrev kpB (b k : Nat) : Nat × Blk := (b, .cells [ptrB k] 25)
theorem sleepers_spec (k : Nat) : Spec Tryz.prog 77 [ptrB k] [] fun v H' => ∃ b, v = .func (.func 167) #[] #[ptrB b] ∧ H' = [kpB b k] := by
  refine Spec_body Tryz.func77 rfl Tryz.ntmps77 rfl (fun w0 => ?_)
  repeat (first | refine stepA ?_ | intro _)
  rename_i b
  (first | refine retA ?_ | refine retB ?_)
  exact ⟨_, ⟨b, rfl, rfl⟩, subA⟩
theorem sleepers_iter (σ : KS) (h0 : σ.wn = 0) (b : Nat) : IterNil Tryz.prog 167 [ptrB b] [kpB b σ.k, knB σ] := by
  unfold IterNil
  intro y
  refine Spec_body Tryz.func167 rfl Tryz.ntmps167 rfl (fun w0 => ?_)
  repeat (first | refine stepA ?_ | intro _)
  refine W_loop (fun _ : Unit => [(9, .int .i64 (σ.wn : Int)), (10, .int .i64 0)]) (fun _ => [kpB b σ.k, knB σ]) (fun _ => True) (fun _ => 0) () trivial sublA subA ?_
  rintro ⟨⟩ -
  repeat (first | refine stepA ?_ | intro _)
  (first | refine retA ?_ | refine retB ?_)
  exact ⟨_, rfl, subA⟩
theorem again_none (σ : KS) (h0 : σ.wn = 0) : Spec Tryz.prog 29 [ptrB σ.k] [knB σ] fun v H' => v = .bool false ∧ H' = [knB σ] := by
  refine Spec_body Tryz.func29 rfl Tryz.ntmps29 rfl (fun w0 => ?_)
  repeat (first | refine stepA ?_ | intro _)
  rename_i b1 b3
  refine callA ?_; refine ⟨_, _, sleepers_spec σ.k, _, cutA, ?_⟩
  rintro v H' ⟨b, rfl, rfl⟩
  simp only [List.cons_append, List.nil_append]
  repeat (first | refine stepA ?_ | intro _)
  have inst : FnOk Tryz.prog 167 := inferInstance
  refine W_rangeNil (Hc := [kpB b σ.k, (b3, .cells [.bool false] 4), knB σ]) rfl (ev_of rfl (by with_reducible rfl)) inst (sleepers_iter σ h0 b) (by simp) ⟨_, cutA⟩ subA ?_
  intro D
  repeat (first | refine stepA ?_ | intro _)
  (first | refine retA ?_ | refine retB ?_); exact ⟨_, ⟨rfl, rfl⟩, subA⟩
end Go.Proofs.YtcpfmjlceoiofaaGreatDoor

/-
  The kernel: Step.
-/
namespace Go.Proofs.YtcpfmjlceoiofaaGreatDoor
open Go.RowKit
attribute [local irreducible] W L QL PureOp thenQ blockQ retQ Spec IterOk YSpec roundQ scopeQ noGoQ
attribute [local irreducible] AS ASi IterOkC retD retE
set_option maxHeartbeats 12800000
set_option maxRecDepth 8000
abbrev setR (σ : KS) (pid : Int) (t : GE TK) (rs : RS) : KS := { σ with T := setG σ.T pid { t.v with r := rs } }
/-- what most calls leave as it is -/
structure Keep (σ σ' : KS) : Prop where
  k : σ'.k = σ.k
  pi : σ'.pi = σ.pi
  E : σ'.E = σ.E
  fc : σ'.fc = σ.fc
  qu : σ'.qu = σ.qu
  wa : σ'.wa = σ.wa
  wn : σ'.wn = σ.wn
  wc : σ'.wc = σ.wc
theorem WfK.setR {σ : KS} (hw : WfK σ) {pid : Int} {t : GE TK} (ht : findG σ.T pid = some t) (rs : RS) : WfK (setR σ pid t rs) := by
  refine ⟨hw.M, hw.L, hw.R, hw.Rn, hw.T.set pid _, ?_, ?_, hw.Rk, hw.idle⟩
  · intro y hy
    rcases setG_mem hy with hy | hy
    · exact hw.Tw y hy
    · rw [hy]
      have := hw.Tw t (findG_mem ht)
      exact ⟨this.own, this.n, this.none⟩
  · intro k
    show (findP σ.L k).isSome = (findG (setG σ.T pid _) k).isSome
    rw [findG_setG_some]
    exact hw.keys k
theorem fitR : FitK [.int .i64, .int .i64, .int .i64, .str, .bool] rs0.cells := by
  refine ⟨rfl, fun j k h => ?_⟩
  match j, h with
  | 0, h => cases h; exact ⟨_, rfl, 0, rfl⟩
  | 1, h => cases h; exact ⟨_, rfl, 0, rfl⟩
  | 2, h => cases h; exact ⟨_, rfl, 0, rfl⟩
  | 3, h => cases h; exact ⟨_, rfl, _, rfl⟩
  | 4, h => cases h; exact ⟨_, rfl, _, rfl⟩
section
variable (σ : KS)
theorem step_gen (pid : Int) (x : CallV) {p : PE} {t : GE TK} (hp : findP σ.L pid = some p) (hrun : p.p.state = 1) (ht : findG σ.T pid = some t) (hr : RightP x) (h12 : x.no ≠ 12) (h16 : x.no ≠ 16) (h19 : x.no ≠ 19)
    (f : FuncId) (inst : FnOk Tryz.prog f) (rs : RS) (hrw : rs.w = false) (Pσ : KS → Prop)
    (hsel : ∀ wb Ls, getL Ls 1 = some (deedV 50 wb) ∧ getL Ls 3 = some (deedV 52 wb) ∧ getL Ls 4 = some (deedV 53 wb) ∧
      getL Ls 5 = some (deedV 54 wb) ∧ getL Ls 7 = some (deedV 56 wb) ∧ getL Ls 10 = some (deedV 59 wb) → getL Ls x.no = some (deedV f wb))
    (hd : ∀ wb, Spec Tryz.prog f [ptrB wb] (wkK wb σ.k t.ptr pid p.p.uid p.p.gid x :: kH σ) fun v H' => v = .tuple #[rs.val, .nilIface] ∧ ∃ σ', Pσ σ' ∧ H' = wkK wb σ.k t.ptr pid p.p.uid p.p.gid x :: kH σ')
    (hP : ∀ σ', Pσ σ' → σ'.k = σ.k ∧ σ'.wn = 0 ∧ ∃ t', findG σ'.T pid = some t' ∧ t'.b = t.b) :
    Spec Tryz.prog 11 [ptrB σ.k, .int .i64 pid, .agg x.cells.toArray] (kH σ) fun v H' => v = rs.val ∧ ∃ σ' t', Pσ σ' ∧ findG σ'.T pid = some t' ∧ t'.b = t.b ∧ H' = kH (setR σ' pid t' rs) := by
  obtain ⟨re, rn, rm, rss, rw⟩ := rs
  simp only at hrw
  subst hrw
  refine Spec_body Tryz.func11 rfl Tryz.ntmps11 rfl (fun w0 => ?_)
  have hg := (prget_spec σ.pr σ.mb σ.last σ.L σ.c pid).frame (blkG rowK σ.R ++ (blkG tkB σ.T ++ tkXs σ.T σ.E))
  simp only [hp, fndE, Option.elim, Option.map_some, Option.getD_some, List.cons_append, List.nil_append] at hg
  repeat (first | refine stepA ?_ | intro _)
  rename_i b5 b6
  refine callT ?_; refine ⟨_, _, hg, _, cutT, ?_⟩
  rintro v H' ⟨H1, ⟨rfl, rfl⟩, rfl⟩
  simp only [List.cons_append, List.nil_append]
  repeat (first | refine stepA ?_ | intro _)
  rename_i b7
  refine callA ?_; refine ⟨_, _, right_spec x, _, cutA, ?_⟩
  rintro v H' ⟨rfl, rfl⟩
  simp only [List.cons_append, List.nil_append]
  rw [decide_eq_true hr]
  repeat (first | refine stepA ?_ | intro _)
  refine callT ?_; refine ⟨_, _, worker_spec σ pid x hp ht, _, cutT, ?_⟩
  rintro v H' ⟨wb, rfl, rfl⟩
  simp only [List.cons_append, List.nil_append]
  repeat (first | refine stepA ?_ | intro _)
  refine callA ?_; refine ⟨_, _, reads_none wb σ.k t.ptr pid p.p.uid p.p.gid x h12 h16 h19, _, cutA, ?_⟩
  rintro v H' ⟨rfl, rfl⟩
  simp only [List.cons_append, List.nil_append]
  repeat (first | refine stepA ?_ | intro _)
  refine callA ?_; refine ⟨_, _, result_nil rs0, _, cutA, ?_⟩
  rintro v H' ⟨rfl, rfl⟩
  simp only [List.cons_append, List.nil_append]
  repeat (first | refine stepA ?_ | intro _)
  rename_i b10 b11
  (first | (apply L_P; (· exact rfl); (· exact rfl)) | (apply QL_P; (· exact rfl)))
  · exact P_eqS (xs := rs0.cells) (ys := rs0.cells) (b := true) (ev_of rfl rfl) (ev_of rfl rfl) fitR fitR (by simp)
  repeat (first | refine stepA ?_ | intro _)
  refine W_any [(b10, .cells rs0.cells 31), (b5, .cells x.cells 34)] [9] rfl ?_
  refine AS_at 0 (by decide +kernel) ?_; refine takeA ?_
  refine AS_at 2 (by decide +kernel) ?_; refine takeA ?_
  refine AS_at 3 (by decide +kernel) ?_; refine takeA ?_
  refine AS_one 1 rfl (by decide +kernel) rfl ?_
  refine callA ?_; refine ⟨_, _, deeds_spec wb, _, cutA, ?_⟩
  rintro v H' ⟨mb, Ls, dc, rfl, rfl, hLs⟩
  simp only [List.cons_append, List.nil_append]
  refine L_nil ?_; refine ⟨rfl, (by first | exact KeepsH.brk (by decide +kernel) | exact KeepsH.sub subA | exact KeepsH.sub subT), ?_⟩
  refine AS_one 4 rfl (by decide +kernel) rfl ?_
  (first | (apply L_P; (· exact rfl); (· exact rfl)) | (apply QL_P; (· exact rfl))); (· (apply P_lookup; (· exact evA); (· exact evA); (· exact pullA)))
  rw [hsel wb Ls hLs, Option.getD_some]
  refine L_nil ?_; refine ⟨rfl, (by first | exact KeepsH.brk (by decide +kernel) | exact KeepsH.sub subA | exact KeepsH.sub subT), ?_⟩
  refine AS_one 5 rfl (by decide +kernel) rfl ?_
  refine callBT (f := f) (pre := [ptrB wb]) ?_
  refine ⟨_, _, hd wb, _, cutT, ?_⟩
  rintro v H' ⟨rfl, σ', hP1, rfl⟩
  simp only [List.cons_append, List.nil_append]
  refine L_nil ?_; refine ⟨rfl, (by first | exact KeepsH.brk (by decide +kernel) | exact KeepsH.sub subA | exact KeepsH.sub subT), ?_⟩
  refine AS_at 6 (by decide +kernel) ?_; refine takeA ?_
  refine AS_at 7 (by decide +kernel) ?_; refine takeA ?_
  refine AS_one 8 rfl (by decide +kernel) rfl ?_
  refine callA ?_; refine ⟨_, _, result_nil ⟨re, rn, rm, rss, false⟩, _, cutA, ?_⟩
  rintro v H' ⟨rfl, rfl⟩
  simp only [List.cons_append, List.nil_append]
  refine L_nil ?_; refine ⟨rfl, (by first | exact KeepsH.brk (by decide +kernel) | exact KeepsH.sub subA | exact KeepsH.sub subT), ?_⟩
  refine AS_one 9 rfl (by decide +kernel) rfl ?_
  refine stepA ?_
  refine L_nil ?_; refine ⟨rfl, (by first | exact KeepsH.brk (by decide +kernel) | exact KeepsH.sub subA | exact KeepsH.sub subT), ?_⟩
  refine AS_done (by decide +kernel) ?_
  obtain ⟨hk, hwn, t', ht', htb⟩ := hP σ' hP1
  have hag := again_none σ' hwn
  rw [hk] at hag
  obtain ⟨tb, tw, tk, tv⟩ := t'
  simp only at htb
  subst htb
  obtain ⟨ZT, pT, pT2, -⟩ := blkG_at tkB ht'
  obtain ⟨ZX, pX, pX2, -⟩ := tkXs_at σ'.E ht'
  simp only at pT pX pT2 pX2
  have pZ : (kZ σ'.L σ'.R σ'.T σ'.E).Perm (tkB t.b tv :: (prB σ'.L ++ (blkG rowK σ'.R ++ (ZT ++ tkXs σ'.T σ'.E)))) := by
    classical
    refine List.perm_iff_count.2 fun x => ?_
    have q1 := pT.count_eq x
    simp only [List.count_append, List.count_cons] at q1 ⊢
    rw [q1]
    ac_rfl
  repeat (first | refine stepA ?_ | intro _)
  refine W_tail (T := kZ σ'.L σ'.R σ'.T σ'.E) pZ ?_
  simp only [List.cons_append, List.nil_append]
  refine W_any [wkK wb σ.k (ptrB t.b) pid p.p.uid p.p.gid x, (b10, .cells (RS.cells ⟨re, rn, rm, rss, false⟩) 31)] [7] rfl ?_
  refine AS_at 0 (by decide +kernel) ?_; refine takeA ?_
  refine AS_at 1 (by decide +kernel) ?_; refine takeA ?_
  refine AS_at 2 (by decide +kernel) ?_; refine takeA ?_
  refine AS_at 3 (by decide +kernel) ?_; refine takeA ?_
  refine AS_at 4 (by decide +kernel) ?_; refine takeA ?_
  refine AS_at 5 (by decide +kernel) ?_; refine takeA ?_
  refine AS_at 6 (by decide +kernel) ?_; refine takeA ?_
  refine AS_one 7 rfl (by decide +kernel) rfl ?_
  refine L_store (cs := RS.cells ⟨re, rn, rm, rss, false⟩) (Ln := ({ tv with r := ⟨re, rn, rm, rss, false⟩ } : TK).cells) evA evA rfl rfl (fun u hu => List.all_eq_true.1 (show List.all (RS.cells ⟨re, rn, rm, rss, false⟩) (fun u => u.oneCell') = true from rfl) u hu) repA rfl (by simp) ?_
  refine L_nil ?_; refine ⟨rfl, (by first | exact KeepsH.brk (by decide +kernel) | exact KeepsH.sub subA | exact KeepsH.sub subT), ?_⟩
  refine AS_done (by decide +kernel) ?_
  repeat (first | refine stepA ?_ | intro _)
  obtain ⟨nt, hnt⟩ : ∃ nt : TK, nt = { tv with r := ⟨re, rn, rm, rss, false⟩ } := ⟨_, rfl⟩
  refine W_loop (fun _ : Unit => [(0, ptrB σ.k), (6, ptrB b6), (10, ptrB b10)]) (fun _ => (b10, .cells (RS.cells ⟨re, rn, rm, rss, false⟩) 31) :: (b6, .cells rs0.cells 31) :: knB σ' :: tbB σ'.pr σ'.mb σ'.last :: kvB σ'.mb σ'.L σ'.c :: flB σ'.fr σ'.fm σ'.fc :: rmB σ'.fm σ'.R σ'.rc :: tmB σ'.tm σ'.T σ'.tc :: (memH σ'.m σ'.M ++ (tkB t.b nt :: (prB σ'.L ++ (blkG rowK σ'.R ++ (ZT ++ tkXs σ'.T σ'.E)))))) (fun _ => True) (fun _ => 0) () trivial sublA (by rw [hnt]; exact subT) ?_
  rintro ⟨⟩ -
  simp only [List.cons_append, List.nil_append]
  repeat (first | refine stepA ?_ | intro _)
  refine callA ?_; refine ⟨_, _, hag, _, cutA, ?_⟩
  rintro v H' ⟨rfl, rfl⟩
  simp only [List.cons_append, List.nil_append]
  repeat (first | refine stepA ?_ | intro _)
  (first | refine retA ?_ | refine retB ?_)
  refine ⟨_, ⟨rfl, σ', _, hP1, ht', rfl, rfl⟩, ?_⟩
  have q1' := pT2 nt
  have q2' := pX2 nt
  have eX : tkX nt = tkX tv := by rw [hnt]; rfl
  rw [eX] at q2'
  have q2'' := q2'.trans pX.symm
  obtain ⟨T', hT'⟩ : ∃ T', T' = setG σ'.T pid nt := ⟨_, rfl⟩
  rw [← hT'] at q1' q2''
  have e3 : T'.map GE.kv = σ'.T.map GE.kv := by rw [hT']; exact setG_kv
  have pF : ((knB σ' :: tbB σ'.pr σ'.mb σ'.last :: kvB σ'.mb σ'.L σ'.c :: flB σ'.fr σ'.fm σ'.fc :: rmB σ'.fm σ'.R σ'.rc :: (σ'.tm, mapB (T'.map GE.kv) σ'.tc) :: (memH σ'.m σ'.M ++ kZ σ'.L σ'.R T' σ'.E)) ++ [(b10, Blk.cells (RS.cells ⟨re, rn, rm, rss, false⟩) 31), (b6, Blk.cells (RS.cells ⟨re, rn, rm, rss, false⟩) 31)]).Perm
      (knB σ' :: (b10, .cells (RS.cells ⟨re, rn, rm, rss, false⟩) 31) :: (b6, .cells (RS.cells ⟨re, rn, rm, rss, false⟩) 31) :: tbB σ'.pr σ'.mb σ'.last :: kvB σ'.mb σ'.L σ'.c :: flB σ'.fr σ'.fm σ'.fc :: rmB σ'.fm σ'.R σ'.rc :: (σ'.tm, mapB (σ'.T.map GE.kv) σ'.tc) :: (memH σ'.m σ'.M ++ (tkB t.b nt :: (prB σ'.L ++ (blkG rowK σ'.R ++ (ZT ++ tkXs σ'.T σ'.E)))))) := by
    rw [e3]
    classical
    refine List.perm_iff_count.2 fun x => ?_
    have q1 := q1'.count_eq x
    have q2 := q2''.count_eq x
    simp only [List.count_append, List.count_cons, List.count_nil, Nat.add_zero, Nat.zero_add] at q1 q2 ⊢
    rw [q1, q2]
    ac_rfl
  subst hT' hnt
  exact Sub.ofPermR pF
end
end Go.Proofs.YtcpfmjlceoiofaaGreatDoor
