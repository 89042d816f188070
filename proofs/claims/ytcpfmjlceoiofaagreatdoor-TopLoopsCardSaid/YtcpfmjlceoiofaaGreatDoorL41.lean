/-
  Joined texts; each begins with its own sentence.
-/
import Derived.Test.YtcpfmjlceoiofaaGreatDoorL40
set_option linter.unusedSimpArgs false
set_option linter.unusedVariables false
set_option linter.unusedSectionVars false
/-
  The kernel: fork.
-/
namespace Go.Proofs.YtcpfmjlceoiofaaGreatDoor
open Go.RowKit
attribute [local irreducible] W L QL PureOp thenQ blockQ retQ Spec IterOk YSpec roundQ scopeQ noGoQ
attribute [local irreducible] AS ASi IterOkC retD retE
set_option maxHeartbeats 12800000
set_option maxRecDepth 4000
theorem findP_add {L : List PE} {y : PE} {j : Int} : findP (L ++ [y]) j = (findP L j).or (if j = y.p.pid then some y else none) := by
  induction L with
  | nil => simp [findP]
  | cons z L ih =>
    simp only [List.cons_append, findP]
    by_cases hj : j = z.p.pid
    · rw [if_pos hj, if_pos hj]; rfl
    · rw [if_neg hj, if_neg hj, ih]
theorem forkGo_wf {src dst : Int} : ∀ {ps : List Nat} {M : List Frm} {us : List (Option Nat)}, WfM M → WfM (forkGo M src dst us ps).2.1
  | [], _, _, h => h
  | p :: ps, M, us, h => by
    rw [forkGo]
    have h1 := forkStep_wf h src dst us p
    split
    · exact forkGo_wf h1
    · exact h1
theorem forkM_wf {M : List Frm} (h : WfM M) (src : Int) : WfM (forkM M src).2.2 := by
  rw [forkM]
  split
  · exact h
  · simp only
    split
    · exact forkGo_wf (allocS_wf h)
    · exact undoAll_wf (forkGo_wf (allocS_wf h)) _ _
/-- a kernel behind a fork -/
abbrev forkK (σ : KS) (root : Int) (p : PE) (pid : Int) (b nb : Nat) (nt : TK) (R' : List RowE) (rc' : Nat) : KS :=
  { σ with M := (forkM σ.M root).2.2, L := σ.L ++ [⟨b, σ.c, childP p pid σ.last⟩], last := σ.last + 1, c := σ.c + 1, R := R', rc := rc', T := σ.T ++ [⟨nb, σ.tc, σ.last + 1, nt⟩], tc := σ.tc + 1 }
section
variable (σ : KS)
theorem kfork_spec (hw : WfK σ) (wb : Nat) (uid gid : Int) (pid : Int) (x : CallV) {p : PE} {t : GE TK} (hp : findP σ.L pid = some p) (hrun : p.p.state = 1) (ht : findG σ.T pid = some t) (hM : (forkM σ.M t.v.sp.root).1 = 0) (hlen : σ.L.length < 16) (hlast : σ.last < 30000) :
    Spec Tryz.prog 50 [ptrB wb] (wkK wb σ.k t.ptr pid uid gid x :: kH σ) fun v H' => ∃ b nb nt R' rc', v = .tuple #[RS.val ⟨0, σ.last + 1, 0, [], false⟩, .nilIface] ∧ nt.sp = { t.v.sp with root := (forkM σ.M t.v.sp.root).2.1 } ∧ (findG R' (σ.last + 1)).isSome = true ∧ WfK (forkK σ t.v.sp.root p pid b nb nt R' rc') ∧ H' = wkK wb σ.k t.ptr pid uid gid x :: kH (forkK σ t.v.sp.root p pid b nb nt R' rc') := by
  obtain ⟨tb, tw, tk, tv⟩ := t
  simp only at hM
  obtain ⟨ZT, pT, -, -⟩ := blkG_at tkB ht
  obtain ⟨ZX, pX, -, -⟩ := tkXs_at σ.E ht
  have hwt := hw.Tw _ (findG_mem ht)
  simp only [tkX, List.cons_append] at pT pX hwt
  obtain ⟨Y, hY⟩ : ∃ Y, Y = prB σ.L ++ (blkG rowK σ.R ++ (ZT ++ ZX)) := ⟨_, rfl⟩
  have pZ : (kZ σ.L σ.R σ.T σ.E).Perm (tkB tb tv :: amB tv.am tv.ac :: (tv.hs ++ Y)) := by
    rw [hY]
    classical
    refine List.perm_iff_count.2 fun x => ?_
    have q1 := pT.count_eq x
    have q2 := pX.count_eq x
    simp only [List.count_append, List.count_cons] at q1 q2 ⊢
    rw [q1, q2]
    ac_rfl
  have pY1 : ∀ hs2, (tv.hs ++ (hs2 ++ Y)).Perm (prB σ.L ++ (tv.hs ++ (hs2 ++ (blkG rowK σ.R ++ (ZT ++ ZX))))) := by intro hs2; rw [hY]; exact permA
  have hlast1 := hw.L.last
  have hpid : 1 ≤ pid ∧ pid ≤ σ.last := by have := hw.L.rng p (findP_mem hp); rwa [findP_pid hp] at this
  have hRn : findG σ.R (σ.last + 1) = none := findG_none.2 fun y hy e => by have := hw.Rk y hy; omega
  have hTn : findG σ.T (σ.last + 1) = none := by
    have := hw.keys (σ.last + 1)
    rw [findP_last hw.L] at this
    cases h : findG σ.T (σ.last + 1) with
    | none => rfl
    | some y => rw [h] at this; simp at this
  have hwF : ∀ (b nb : Nat) (nt : TK) (R' : List RowE) (rc' : Nat), WfT nt → WfG R' rc' → rowsNone R' → (∀ k, k ≠ pid → k ≠ σ.last + 1 → findG R' k = findG σ.R k) → WfK (forkK σ tv.sp.root p pid b nb nt R' rc') := by
    intro b nb nt R' rc' h1 h2 h3 h4
    refine ⟨forkM_wf hw.M _, hw.L.fork hlen hlast b rfl, h2, h3, hw.T.add nb nt hTn, ?_, ?_, ?_⟩
    · intro y hy
      rcases List.mem_append.1 hy with hy | hy
      · exact hw.Tw y hy
      · obtain rfl := List.mem_singleton.1 hy
        exact h1
    · intro k
      have := hw.keys k
      show (findP (σ.L ++ [⟨b, σ.c, childP p pid σ.last⟩]) k).isSome = (findG (σ.T ++ [⟨nb, σ.tc, σ.last + 1, nt⟩]) k).isSome
      rw [findG_add, findP_add]
      by_cases hk : k = σ.last + 1
      · rw [if_pos hk, if_pos hk]
        simp
      · rw [if_neg hk, if_neg hk, Option.or_none, Option.or_none, this]
    · intro y hy
      show y.k ≤ σ.last + 1
      by_cases e1 : y.k = pid
      · omega
      · by_cases e2 : y.k = σ.last + 1
        · omega
        · have h5 := h4 y.k e1 e2
          cases h6 : findG R' y.k with
          | none => exact absurd rfl (findG_none.1 h6 y hy)
          | some z =>
            rw [h6] at h5
            have := hw.Rk z (findG_mem h5.symm)
            rw [findG_key h5.symm] at this
            omega
  have hE : pforkE σ.L σ.last pid = 0 := by
    simp only [pforkE, runE, hp, Option.elim, hrun, if_true, ne_eq, not_true_eq_false, if_false]
    rw [if_neg (by omega)]
  refine Spec_body Tryz.func50 rfl Tryz.ntmps50 rfl (fun w0 => ?_)
  try simp only [List.cons_append, List.nil_append]
  refine W_tail (T := kZ σ.L σ.R σ.T σ.E) pZ ?_
  simp only [List.cons_append, List.nil_append]
  repeat (first | refine stepA ?_ | intro _)
  rename_i b0
  have hf := (fork_sp σ.m hw.M tv.sp hwt.own hwt.n).frame Y
  simp only [List.cons_append, List.nil_append, List.append_assoc] at hf
  refine W_any [knB σ, wkK wb σ.k (ptrB tb) pid uid gid x, tkB tb tv] [] rfl ?_
  refine AS_at 0 (by decide +kernel) ?_; refine takeA ?_
  refine AS_at 1 (by decide +kernel) ?_; refine takeA ?_
  refine AS_at 2 (by decide +kernel) ?_; refine takeA ?_
  refine AS_at 3 (by decide +kernel) ?_; refine takeA ?_
  refine AS_at 4 (by decide +kernel) ?_; refine takeA ?_
  refine AS_at 5 (by decide +kernel) ?_; refine takeA ?_
  refine AS_at 6 (by decide +kernel) ?_; refine takeA ?_
  refine AS_at 7 (by decide +kernel) ?_; refine takeA ?_
  refine AS_at 8 (by decide +kernel) ?_; refine takeA ?_
  refine AS_at 9 (by decide +kernel) ?_; refine takeA ?_
  refine AS_at 10 (by decide +kernel) ?_; refine takeA ?_
  refine AS_at 11 (by decide +kernel) ?_; refine takeA ?_
  refine AS_at 12 (by decide +kernel) ?_; refine takeA ?_
  refine AS_at 13 (by decide +kernel) ?_; refine takeA ?_
  refine AS_two 14 18 rfl (by decide +kernel) rfl rfl ?_ ?_
  · skip
    refine callT ?_; refine ⟨_, _, hf, _, cutT, ?_⟩
    rintro v H' ⟨H1, (⟨h0, -, -⟩ | ⟨-, a2, cap2, hs2, rfl, how2, rfl⟩), rfl⟩
    · exact absurd hM h0
    simp only [List.cons_append, List.nil_append, List.append_assoc]
    refine L_nil ?_; refine ⟨rfl, (by first | exact KeepsH.brk (by decide +kernel) | exact KeepsH.sub subA | exact KeepsH.sub subT), ?_⟩
    refine AS_at 15 (by decide +kernel) ?_; refine takeA ?_
    refine AS_at 16 (by decide +kernel) ?_; refine takeA ?_
    refine AS_at 17 (by decide +kernel) ?_; refine takeA ?_
    refine AS_one 18 rfl (by decide +kernel) rfl ?_
    refine stepA ?_
    intro b4
    refine L_nil ?_; refine ⟨rfl, (by first | exact KeepsH.brk (by decide +kernel) | exact KeepsH.sub subA | exact KeepsH.sub subT), ?_⟩
    refine AS_one 19 rfl (by decide +kernel) rfl ?_
    refine stepA ?_
    refine L_nil ?_; refine ⟨rfl, (by first | exact KeepsH.brk (by decide +kernel) | exact KeepsH.sub subA | exact KeepsH.sub subT), ?_⟩
    refine AS_at 20 (by decide +kernel) ?_; refine takeA ?_
    refine AS_done (by decide +kernel) ?_
    repeat (first | refine stepA ?_ | intro _)
    refine W_tail (T := tv.hs ++ (hs2 ++ Y)) (pY1 hs2) ?_
    simp only [List.cons_append, List.nil_append]
    have hF := (prfork_spec σ.pr σ.mb hw.L pid).frame (tv.hs ++ (hs2 ++ (blkG rowK σ.R ++ (ZT ++ ZX))))
    simp only [List.cons_append, List.nil_append, List.append_assoc] at hF
    refine W_any [knB σ, wkK wb σ.k (ptrB tb) pid uid gid x] [] rfl ?_
    refine AS_at 0 (by decide +kernel) ?_; refine takeA ?_
    refine AS_at 1 (by decide +kernel) ?_; refine takeA ?_
    refine AS_at 2 (by decide +kernel) ?_; refine takeA ?_
    refine AS_at 3 (by decide +kernel) ?_; refine takeA ?_
    refine AS_at 4 (by decide +kernel) ?_; refine takeA ?_
    refine AS_at 5 (by decide +kernel) ?_; refine takeA ?_
    refine AS_at 6 (by decide +kernel) ?_; refine takeA ?_
    refine AS_at 7 (by decide +kernel) ?_; refine takeA ?_
    refine AS_at 8 (by decide +kernel) ?_; refine takeA ?_
    refine AS_at 9 (by decide +kernel) ?_; refine takeA ?_
    refine AS_at 10 (by decide +kernel) ?_; refine takeA ?_
    refine AS_one 11 rfl (by decide +kernel) rfl ?_
    refine callT ?_; refine ⟨_, _, hF, _, cutT, ?_⟩
    rintro v H' ⟨H1, (⟨h0, -, -⟩ | ⟨-, rfl, p2, b, hp2, rfl⟩), rfl⟩
    · exact absurd hE h0
    obtain rfl : p = p2 := by rw [hp] at hp2; exact Option.some.inj hp2
    simp only [List.cons_append, List.nil_append, List.append_assoc]
    refine L_nil ?_; refine ⟨rfl, (by first | exact KeepsH.brk (by decide +kernel) | exact KeepsH.sub subA | exact KeepsH.sub subT), ?_⟩
    refine AS_at 12 (by decide +kernel) ?_; refine takeA ?_
    refine AS_at 13 (by decide +kernel) ?_; refine takeA ?_
    refine AS_at 14 (by decide +kernel) ?_; refine takeA ?_
    refine AS_at 15 (by decide +kernel) ?_; refine takeA ?_
    refine AS_at 16 (by decide +kernel) ?_; refine takeA ?_
    refine AS_done (by decide +kernel) ?_
    obtain ⟨L', hL'⟩ : ∃ L', L' = σ.L ++ [(⟨b, σ.c, childP p pid σ.last⟩ : PE)] := ⟨_, rfl⟩
    rw [← hL']
    repeat (first | refine stepA ?_ | intro _)
    refine W_tail (T := prB L' ++ (tv.hs ++ (hs2 ++ (blkG rowK σ.R ++ (ZT ++ ZX))))) (T' := blkG rowK σ.R ++ (prB L' ++ (tv.hs ++ (hs2 ++ (ZT ++ ZX))))) permA ?_
    simp only [List.cons_append, List.nil_append]
    have hFi := (fifork_none σ.fr σ.fm σ.fc hw.R hw.Rn pid (σ.last + 1) hpid.1 (by omega) (by omega) hRn).frame (prB L' ++ (tv.hs ++ (hs2 ++ (ZT ++ ZX))))
    simp only [List.cons_append, List.nil_append, List.append_assoc] at hFi
    refine W_any [knB σ, wkK wb σ.k (ptrB tb) pid uid gid x] [] rfl ?_
    refine AS_at 0 (by decide +kernel) ?_; refine takeA ?_
    refine AS_at 1 (by decide +kernel) ?_; refine takeA ?_
    refine AS_at 2 (by decide +kernel) ?_; refine takeA ?_
    refine AS_at 3 (by decide +kernel) ?_; refine takeA ?_
    refine AS_at 4 (by decide +kernel) ?_; refine takeA ?_
    refine AS_at 5 (by decide +kernel) ?_; refine takeA ?_
    refine AS_at 6 (by decide +kernel) ?_; refine takeA ?_
    refine AS_at 7 (by decide +kernel) ?_; refine takeA ?_
    refine AS_at 8 (by decide +kernel) ?_; refine takeA ?_
    refine AS_at 9 (by decide +kernel) ?_; refine takeA ?_
    refine AS_at 10 (by decide +kernel) ?_; refine takeA ?_
    refine AS_at 11 (by decide +kernel) ?_; refine takeA ?_
    refine AS_one 12 rfl (by decide +kernel) rfl ?_
    refine callT ?_; refine ⟨_, _, hFi, _, cutT, ?_⟩
    rintro v H' ⟨H1, ⟨rfl, R', rc', hwR, hnR, hfR, hsR, rfl⟩, rfl⟩
    simp only [List.cons_append, List.nil_append, List.append_assoc]
    refine L_nil ?_; refine ⟨rfl, (by first | exact KeepsH.brk (by decide +kernel) | exact KeepsH.sub subA | exact KeepsH.sub subT), ?_⟩
    refine AS_done (by decide +kernel) ?_
    repeat (first | refine stepA ?_ | intro _)
    refine L_rangeMap (Ls := []) (c := tv.ac) rfl (ev_of rfl (by with_reducible rfl)) pullA (fun it => ?_)
    repeat (first | refine stepA ?_ | intro _)
    refine W_loop (fun _ : Unit => [(0, ptrB wb), (2, ptrB b0), (3, .nilIface), (4, ptrB b4), (6, .int .i64 (σ.last + 1)), (84, ptrB it)]) (fun _ => (it, itB tv.am tv.ac []) :: (b4, .cells (spC { tv.sp with root := (forkM σ.M tv.sp.root).2.1 } a2 tv.n cap2) 84) :: (b0, .cells rs0.cells 31) :: wkK wb σ.k (ptrB tb) pid uid gid x :: knB σ :: tmB σ.tm σ.T σ.tc :: tkB tb tv :: amB tv.am tv.ac :: tbB σ.pr σ.mb (σ.last + 1) :: kvB σ.mb L' (σ.c + 1) :: flB σ.fr σ.fm σ.fc :: rmB σ.fm R' rc' :: (memH σ.m (forkM σ.M tv.sp.root).2.2 ++ (blkG rowK R' ++ (prB L' ++ (tv.hs ++ (hs2 ++ (ZT ++ ZX))))))) (fun _ => True) (fun _ => 0) () trivial sublA subT ?_
    rintro ⟨⟩ -
    simp only [List.cons_append, List.nil_append]
    repeat (first | refine stepA ?_ | intro _)
    refine L_next (seen := []) (Ls := []) (c := tv.ac) (r := tv.am) (it := it) rfl (ev_of rfl (by with_reducible rfl)) pullA pullA (fun b' => repA) (by simp) ?_ ?_
    · intro z hz
      simp at hz
    intro _
    repeat (first | refine stepA ?_ | intro _)
    refine W_any [knB σ, wkK wb σ.k (ptrB tb) pid uid gid x, tkB tb tv, (b4, .cells (spC { tv.sp with root := (forkM σ.M tv.sp.root).2.1 } a2 tv.n cap2) 84)] [19] rfl ?_
    refine AS_at 0 (by decide +kernel) ?_; refine takeA ?_
    refine AS_at 1 (by decide +kernel) ?_; refine takeA ?_
    refine AS_at 2 (by decide +kernel) ?_; refine takeA ?_
    refine AS_at 3 (by decide +kernel) ?_; refine takeA ?_
    refine AS_at 4 (by decide +kernel) ?_; refine takeA ?_
    refine AS_at 5 (by decide +kernel) ?_; refine takeA ?_
    refine AS_at 6 (by decide +kernel) ?_; refine takeA ?_
    refine AS_at 7 (by decide +kernel) ?_; refine takeA ?_
    refine AS_at 8 (by decide +kernel) ?_; refine takeA ?_
    refine AS_at 9 (by decide +kernel) ?_; refine takeA ?_
    refine AS_at 10 (by decide +kernel) ?_; refine takeA ?_
    refine AS_at 11 (by decide +kernel) ?_; refine takeA ?_
    refine AS_at 12 (by decide +kernel) ?_; refine takeA ?_
    refine AS_at 13 (by decide +kernel) ?_; refine takeA ?_
    refine AS_at 14 (by decide +kernel) ?_; refine takeA ?_
    refine AS_at 15 (by decide +kernel) ?_; refine takeA ?_
    refine AS_one 16 rfl (by decide +kernel) rfl ?_
    refine callA ?_; refine ⟨_, _, clone_int tv.am [] tv.ac, _, cutA, ?_⟩
    rintro v H' ⟨nam, rfl, rfl⟩
    simp only [List.cons_append, List.nil_append, List.append_assoc]
    refine L_nil ?_; refine ⟨rfl, (by first | exact KeepsH.brk (by decide +kernel) | exact KeepsH.sub subA | exact KeepsH.sub subT), ?_⟩
    refine AS_at 17 (by decide +kernel) ?_; refine takeA ?_
    refine AS_one 18 rfl (by decide +kernel) rfl ?_
    refine stepA ?_
    intro nb
    refine L_nil ?_; refine ⟨rfl, (by first | exact KeepsH.brk (by decide +kernel) | exact KeepsH.sub subA | exact KeepsH.sub subT), ?_⟩
    refine AS_one 19 rfl (by decide +kernel) rfl ?_
    refine L_mapNew (v := ptrB nb) (i := σ.last + 1) (Ls := σ.T.map GE.kv) (c := σ.tc) evA evA evA (by rw [getL_g, hTn]; rfl) repA ?_
    refine L_nil ?_; refine ⟨rfl, (by first | exact KeepsH.brk (by decide +kernel) | exact KeepsH.sub subA | exact KeepsH.sub subT), ?_⟩
    refine AS_done (by decide +kernel) ?_
    repeat (first | refine stepA ?_ | intro _)
    refine callA ?_; refine ⟨_, _, number_nil (σ.last + 1), _, cutA, ?_⟩
    rintro v H' ⟨rfl, rfl⟩
    simp only [List.cons_append, List.nil_append]
    repeat (first | refine stepA ?_ | intro _)
    (first | refine retA ?_ | refine retB ?_)
    obtain ⟨nt, hnt⟩ : ∃ nt : TK, nt = ⟨{ tv.sp with root := (forkM σ.M tv.sp.root).2.1 }, a2, tv.n, cap2, hs2, nam, tv.ac, rs0, ⟨0, 0, 0, 0, 0, 0, []⟩, []⟩ := ⟨_, rfl⟩
    have hwnt : WfT nt := by rw [hnt]; exact ⟨how2, hwt.n, hwt.none⟩
    refine ⟨_, ⟨b, nb, nt, R', rc', rfl, by rw [hnt], hsR, ?_, rfl⟩, ?_⟩
    · exact hwF b nb nt R' rc' hwnt hwR hnR hfR
    · have e1 : blkG tkB (σ.T ++ [(⟨nb, σ.tc, σ.last + 1, nt⟩ : GE TK)]) = blkG tkB σ.T ++ [tkB nb nt] := by simp [blkG]
      have e2 : (tkXs (σ.T ++ [(⟨nb, σ.tc, σ.last + 1, nt⟩ : GE TK)]) σ.E).Perm (amB nam tv.ac :: (hs2 ++ tkXs σ.T σ.E)) := by
        refine (tkXs_add σ.E σ.T _).trans ?_
        rw [hnt]
        exact List.Perm.refl _
      have e3 : (σ.T ++ [(⟨nb, σ.tc, σ.last + 1, nt⟩ : GE TK)]).map GE.kv = σ.T.map GE.kv ++ [⟨σ.last + 1, ptrB nb, σ.tc⟩] := by simp [GE.kv]
      have pF : ((wkK wb σ.k (ptrB tb) pid uid gid x :: knB σ :: tbB σ.pr σ.mb (σ.last + 1) :: kvB σ.mb L' (σ.c + 1) :: flB σ.fr σ.fm σ.fc :: rmB σ.fm R' rc' :: (σ.tm, mapB ((σ.T ++ [(⟨nb, σ.tc, σ.last + 1, nt⟩ : GE TK)]).map GE.kv) (σ.tc + 1)) :: (memH σ.m (forkM σ.M tv.sp.root).2.2 ++ kZ L' R' (σ.T ++ [(⟨nb, σ.tc, σ.last + 1, nt⟩ : GE TK)]) σ.E)) ++ [(it, itB tv.am tv.ac []), (b4, .cells (spC { tv.sp with root := (forkM σ.M tv.sp.root).2.1 } a2 tv.n cap2) 84), (b0, .cells (RS.cells ⟨0, σ.last + 1, 0, [], false⟩) 31)]).Perm
          (tkB nb nt :: amB nam tv.ac :: amB tv.am tv.ac :: (it, itB tv.am tv.ac []) :: (b4, .cells (spC { tv.sp with root := (forkM σ.M tv.sp.root).2.1 } a2 tv.n cap2) 84) :: (b0, .cells (RS.cells ⟨0, σ.last + 1, 0, [], false⟩) 31) :: wkK wb σ.k (ptrB tb) pid uid gid x :: knB σ :: (σ.tm, mapB (σ.T.map GE.kv ++ [⟨σ.last + 1, ptrB nb, σ.tc⟩]) (σ.tc + 1)) :: tkB tb tv :: tbB σ.pr σ.mb (σ.last + 1) :: kvB σ.mb L' (σ.c + 1) :: flB σ.fr σ.fm σ.fc :: rmB σ.fm R' rc' :: (memH σ.m (forkM σ.M tv.sp.root).2.2 ++ (blkG rowK R' ++ (prB L' ++ (tv.hs ++ (hs2 ++ (ZT ++ ZX))))))) := by
        rw [e3, kZ, e1]
        classical
        refine List.perm_iff_count.2 fun x => ?_
        have q1 := pT.count_eq x
        have q2 := pX.count_eq x
        have q3 := e2.count_eq x
        simp only [List.count_append, List.count_cons, List.count_nil, Nat.add_zero, Nat.zero_add] at q1 q2 q3 ⊢
        rw [q3, q1, q2]
        ac_rfl
      subst hL' hnt
      exact Sub.ofPermR pF
  · skip
    refine stepA ?_
    intro b4
    refine L_nil ?_; refine ⟨rfl, (by first | exact KeepsH.brk (by decide +kernel) | exact KeepsH.sub subA | exact KeepsH.sub subT), ?_⟩
    refine AS_one 14 rfl (by decide +kernel) rfl ?_
    refine callT ?_; refine ⟨_, _, hf, _, cutT, ?_⟩
    rintro v H' ⟨H1, (⟨h0, -, -⟩ | ⟨-, a2, cap2, hs2, rfl, how2, rfl⟩), rfl⟩
    · exact absurd hM h0
    simp only [List.cons_append, List.nil_append, List.append_assoc]
    refine L_nil ?_; refine ⟨rfl, (by first | exact KeepsH.brk (by decide +kernel) | exact KeepsH.sub subA | exact KeepsH.sub subT), ?_⟩
    refine AS_at 15 (by decide +kernel) ?_; refine takeA ?_
    refine AS_at 16 (by decide +kernel) ?_; refine takeA ?_
    refine AS_at 17 (by decide +kernel) ?_; refine takeA ?_
    refine AS_one 19 rfl (by decide +kernel) rfl ?_
    refine stepA ?_
    refine L_nil ?_; refine ⟨rfl, (by first | exact KeepsH.brk (by decide +kernel) | exact KeepsH.sub subA | exact KeepsH.sub subT), ?_⟩
    refine AS_at 20 (by decide +kernel) ?_; refine takeA ?_
    refine AS_done (by decide +kernel) ?_
    repeat (first | refine stepA ?_ | intro _)
    refine W_tail (T := tv.hs ++ (hs2 ++ Y)) (pY1 hs2) ?_
    simp only [List.cons_append, List.nil_append]
    have hF := (prfork_spec σ.pr σ.mb hw.L pid).frame (tv.hs ++ (hs2 ++ (blkG rowK σ.R ++ (ZT ++ ZX))))
    simp only [List.cons_append, List.nil_append, List.append_assoc] at hF
    refine W_any [knB σ, wkK wb σ.k (ptrB tb) pid uid gid x] [] rfl ?_
    refine AS_at 0 (by decide +kernel) ?_; refine takeA ?_
    refine AS_at 1 (by decide +kernel) ?_; refine takeA ?_
    refine AS_at 2 (by decide +kernel) ?_; refine takeA ?_
    refine AS_at 3 (by decide +kernel) ?_; refine takeA ?_
    refine AS_at 4 (by decide +kernel) ?_; refine takeA ?_
    refine AS_at 5 (by decide +kernel) ?_; refine takeA ?_
    refine AS_at 6 (by decide +kernel) ?_; refine takeA ?_
    refine AS_at 7 (by decide +kernel) ?_; refine takeA ?_
    refine AS_at 8 (by decide +kernel) ?_; refine takeA ?_
    refine AS_at 9 (by decide +kernel) ?_; refine takeA ?_
    refine AS_at 10 (by decide +kernel) ?_; refine takeA ?_
    refine AS_one 11 rfl (by decide +kernel) rfl ?_
    refine callT ?_; refine ⟨_, _, hF, _, cutT, ?_⟩
    rintro v H' ⟨H1, (⟨h0, -, -⟩ | ⟨-, rfl, p2, b, hp2, rfl⟩), rfl⟩
    · exact absurd hE h0
    obtain rfl : p = p2 := by rw [hp] at hp2; exact Option.some.inj hp2
    simp only [List.cons_append, List.nil_append, List.append_assoc]
    refine L_nil ?_; refine ⟨rfl, (by first | exact KeepsH.brk (by decide +kernel) | exact KeepsH.sub subA | exact KeepsH.sub subT), ?_⟩
    refine AS_at 12 (by decide +kernel) ?_; refine takeA ?_
    refine AS_at 13 (by decide +kernel) ?_; refine takeA ?_
    refine AS_at 14 (by decide +kernel) ?_; refine takeA ?_
    refine AS_at 15 (by decide +kernel) ?_; refine takeA ?_
    refine AS_at 16 (by decide +kernel) ?_; refine takeA ?_
    refine AS_done (by decide +kernel) ?_
    obtain ⟨L', hL'⟩ : ∃ L', L' = σ.L ++ [(⟨b, σ.c, childP p pid σ.last⟩ : PE)] := ⟨_, rfl⟩
    rw [← hL']
    repeat (first | refine stepA ?_ | intro _)
    refine W_tail (T := prB L' ++ (tv.hs ++ (hs2 ++ (blkG rowK σ.R ++ (ZT ++ ZX))))) (T' := blkG rowK σ.R ++ (prB L' ++ (tv.hs ++ (hs2 ++ (ZT ++ ZX))))) permA ?_
    simp only [List.cons_append, List.nil_append]
    have hFi := (fifork_none σ.fr σ.fm σ.fc hw.R hw.Rn pid (σ.last + 1) hpid.1 (by omega) (by omega) hRn).frame (prB L' ++ (tv.hs ++ (hs2 ++ (ZT ++ ZX))))
    simp only [List.cons_append, List.nil_append, List.append_assoc] at hFi
    refine W_any [knB σ, wkK wb σ.k (ptrB tb) pid uid gid x] [] rfl ?_
    refine AS_at 0 (by decide +kernel) ?_; refine takeA ?_
    refine AS_at 1 (by decide +kernel) ?_; refine takeA ?_
    refine AS_at 2 (by decide +kernel) ?_; refine takeA ?_
    refine AS_at 3 (by decide +kernel) ?_; refine takeA ?_
    refine AS_at 4 (by decide +kernel) ?_; refine takeA ?_
    refine AS_at 5 (by decide +kernel) ?_; refine takeA ?_
    refine AS_at 6 (by decide +kernel) ?_; refine takeA ?_
    refine AS_at 7 (by decide +kernel) ?_; refine takeA ?_
    refine AS_at 8 (by decide +kernel) ?_; refine takeA ?_
    refine AS_at 9 (by decide +kernel) ?_; refine takeA ?_
    refine AS_at 10 (by decide +kernel) ?_; refine takeA ?_
    refine AS_at 11 (by decide +kernel) ?_; refine takeA ?_
    refine AS_one 12 rfl (by decide +kernel) rfl ?_
    refine callT ?_; refine ⟨_, _, hFi, _, cutT, ?_⟩
    rintro v H' ⟨H1, ⟨rfl, R', rc', hwR, hnR, hfR, hsR, rfl⟩, rfl⟩
    simp only [List.cons_append, List.nil_append, List.append_assoc]
    refine L_nil ?_; refine ⟨rfl, (by first | exact KeepsH.brk (by decide +kernel) | exact KeepsH.sub subA | exact KeepsH.sub subT), ?_⟩
    refine AS_done (by decide +kernel) ?_
    repeat (first | refine stepA ?_ | intro _)
    refine L_rangeMap (Ls := []) (c := tv.ac) rfl (ev_of rfl (by with_reducible rfl)) pullA (fun it => ?_)
    repeat (first | refine stepA ?_ | intro _)
    refine W_loop (fun _ : Unit => [(0, ptrB wb), (2, ptrB b0), (3, .nilIface), (4, ptrB b4), (6, .int .i64 (σ.last + 1)), (84, ptrB it)]) (fun _ => (it, itB tv.am tv.ac []) :: (b4, .cells (spC { tv.sp with root := (forkM σ.M tv.sp.root).2.1 } a2 tv.n cap2) 84) :: (b0, .cells rs0.cells 31) :: wkK wb σ.k (ptrB tb) pid uid gid x :: knB σ :: tmB σ.tm σ.T σ.tc :: tkB tb tv :: amB tv.am tv.ac :: tbB σ.pr σ.mb (σ.last + 1) :: kvB σ.mb L' (σ.c + 1) :: flB σ.fr σ.fm σ.fc :: rmB σ.fm R' rc' :: (memH σ.m (forkM σ.M tv.sp.root).2.2 ++ (blkG rowK R' ++ (prB L' ++ (tv.hs ++ (hs2 ++ (ZT ++ ZX))))))) (fun _ => True) (fun _ => 0) () trivial sublA subT ?_
    rintro ⟨⟩ -
    simp only [List.cons_append, List.nil_append]
    repeat (first | refine stepA ?_ | intro _)
    refine L_next (seen := []) (Ls := []) (c := tv.ac) (r := tv.am) (it := it) rfl (ev_of rfl (by with_reducible rfl)) pullA pullA (fun b' => repA) (by simp) ?_ ?_
    · intro z hz
      simp at hz
    intro _
    repeat (first | refine stepA ?_ | intro _)
    refine W_any [knB σ, wkK wb σ.k (ptrB tb) pid uid gid x, tkB tb tv, (b4, .cells (spC { tv.sp with root := (forkM σ.M tv.sp.root).2.1 } a2 tv.n cap2) 84)] [19] rfl ?_
    refine AS_at 0 (by decide +kernel) ?_; refine takeA ?_
    refine AS_at 1 (by decide +kernel) ?_; refine takeA ?_
    refine AS_at 2 (by decide +kernel) ?_; refine takeA ?_
    refine AS_at 3 (by decide +kernel) ?_; refine takeA ?_
    refine AS_at 4 (by decide +kernel) ?_; refine takeA ?_
    refine AS_at 5 (by decide +kernel) ?_; refine takeA ?_
    refine AS_at 6 (by decide +kernel) ?_; refine takeA ?_
    refine AS_at 7 (by decide +kernel) ?_; refine takeA ?_
    refine AS_at 8 (by decide +kernel) ?_; refine takeA ?_
    refine AS_at 9 (by decide +kernel) ?_; refine takeA ?_
    refine AS_at 10 (by decide +kernel) ?_; refine takeA ?_
    refine AS_at 11 (by decide +kernel) ?_; refine takeA ?_
    refine AS_at 12 (by decide +kernel) ?_; refine takeA ?_
    refine AS_at 13 (by decide +kernel) ?_; refine takeA ?_
    refine AS_at 14 (by decide +kernel) ?_; refine takeA ?_
    refine AS_at 15 (by decide +kernel) ?_; refine takeA ?_
    refine AS_one 16 rfl (by decide +kernel) rfl ?_
    refine callA ?_; refine ⟨_, _, clone_int tv.am [] tv.ac, _, cutA, ?_⟩
    rintro v H' ⟨nam, rfl, rfl⟩
    simp only [List.cons_append, List.nil_append, List.append_assoc]
    refine L_nil ?_; refine ⟨rfl, (by first | exact KeepsH.brk (by decide +kernel) | exact KeepsH.sub subA | exact KeepsH.sub subT), ?_⟩
    refine AS_at 17 (by decide +kernel) ?_; refine takeA ?_
    refine AS_one 18 rfl (by decide +kernel) rfl ?_
    refine stepA ?_
    intro nb
    refine L_nil ?_; refine ⟨rfl, (by first | exact KeepsH.brk (by decide +kernel) | exact KeepsH.sub subA | exact KeepsH.sub subT), ?_⟩
    refine AS_one 19 rfl (by decide +kernel) rfl ?_
    refine L_mapNew (v := ptrB nb) (i := σ.last + 1) (Ls := σ.T.map GE.kv) (c := σ.tc) evA evA evA (by rw [getL_g, hTn]; rfl) repA ?_
    refine L_nil ?_; refine ⟨rfl, (by first | exact KeepsH.brk (by decide +kernel) | exact KeepsH.sub subA | exact KeepsH.sub subT), ?_⟩
    refine AS_done (by decide +kernel) ?_
    repeat (first | refine stepA ?_ | intro _)
    refine callA ?_; refine ⟨_, _, number_nil (σ.last + 1), _, cutA, ?_⟩
    rintro v H' ⟨rfl, rfl⟩
    simp only [List.cons_append, List.nil_append]
    repeat (first | refine stepA ?_ | intro _)
    (first | refine retA ?_ | refine retB ?_)
    obtain ⟨nt, hnt⟩ : ∃ nt : TK, nt = ⟨{ tv.sp with root := (forkM σ.M tv.sp.root).2.1 }, a2, tv.n, cap2, hs2, nam, tv.ac, rs0, ⟨0, 0, 0, 0, 0, 0, []⟩, []⟩ := ⟨_, rfl⟩
    have hwnt : WfT nt := by rw [hnt]; exact ⟨how2, hwt.n, hwt.none⟩
    refine ⟨_, ⟨b, nb, nt, R', rc', rfl, by rw [hnt], hsR, ?_, rfl⟩, ?_⟩
    · exact hwF b nb nt R' rc' hwnt hwR hnR hfR
    · have e1 : blkG tkB (σ.T ++ [(⟨nb, σ.tc, σ.last + 1, nt⟩ : GE TK)]) = blkG tkB σ.T ++ [tkB nb nt] := by simp [blkG]
      have e2 : (tkXs (σ.T ++ [(⟨nb, σ.tc, σ.last + 1, nt⟩ : GE TK)]) σ.E).Perm (amB nam tv.ac :: (hs2 ++ tkXs σ.T σ.E)) := by
        refine (tkXs_add σ.E σ.T _).trans ?_
        rw [hnt]
        exact List.Perm.refl _
      have e3 : (σ.T ++ [(⟨nb, σ.tc, σ.last + 1, nt⟩ : GE TK)]).map GE.kv = σ.T.map GE.kv ++ [⟨σ.last + 1, ptrB nb, σ.tc⟩] := by simp [GE.kv]
      have pF : ((wkK wb σ.k (ptrB tb) pid uid gid x :: knB σ :: tbB σ.pr σ.mb (σ.last + 1) :: kvB σ.mb L' (σ.c + 1) :: flB σ.fr σ.fm σ.fc :: rmB σ.fm R' rc' :: (σ.tm, mapB ((σ.T ++ [(⟨nb, σ.tc, σ.last + 1, nt⟩ : GE TK)]).map GE.kv) (σ.tc + 1)) :: (memH σ.m (forkM σ.M tv.sp.root).2.2 ++ kZ L' R' (σ.T ++ [(⟨nb, σ.tc, σ.last + 1, nt⟩ : GE TK)]) σ.E)) ++ [(it, itB tv.am tv.ac []), (b4, .cells (spC { tv.sp with root := (forkM σ.M tv.sp.root).2.1 } a2 tv.n cap2) 84), (b0, .cells (RS.cells ⟨0, σ.last + 1, 0, [], false⟩) 31)]).Perm
          (tkB nb nt :: amB nam tv.ac :: amB tv.am tv.ac :: (it, itB tv.am tv.ac []) :: (b4, .cells (spC { tv.sp with root := (forkM σ.M tv.sp.root).2.1 } a2 tv.n cap2) 84) :: (b0, .cells (RS.cells ⟨0, σ.last + 1, 0, [], false⟩) 31) :: wkK wb σ.k (ptrB tb) pid uid gid x :: knB σ :: (σ.tm, mapB (σ.T.map GE.kv ++ [⟨σ.last + 1, ptrB nb, σ.tc⟩]) (σ.tc + 1)) :: tkB tb tv :: tbB σ.pr σ.mb (σ.last + 1) :: kvB σ.mb L' (σ.c + 1) :: flB σ.fr σ.fm σ.fc :: rmB σ.fm R' rc' :: (memH σ.m (forkM σ.M tv.sp.root).2.2 ++ (blkG rowK R' ++ (prB L' ++ (tv.hs ++ (hs2 ++ (ZT ++ ZX))))))) := by
        rw [e3, kZ, e1]
        classical
        refine List.perm_iff_count.2 fun x => ?_
        have q1 := pT.count_eq x
        have q2 := pX.count_eq x
        have q3 := e2.count_eq x
        simp only [List.count_append, List.count_cons, List.count_nil, Nat.add_zero, Nat.zero_add] at q1 q2 q3 ⊢
        rw [q3, q1, q2]
        ac_rfl
      subst hL' hnt
      exact Sub.ofPermR pF
end
end Go.Proofs.YtcpfmjlceoiofaaGreatDoor

/-
  The kernel: what nobody has: undo.Ids, leaves, closes; ends.
-/
namespace Go.Proofs.YtcpfmjlceoiofaaGreatDoor
open Go.RowKit
attribute [local irreducible] W L QL PureOp thenQ blockQ retQ Spec IterOk YSpec roundQ scopeQ noGoQ
attribute [local irreducible] AS ASi IterOkC retD retE
set_option maxHeartbeats 12800000
set_option maxRecDepth 4000
theorem Cut.skip {u : Nat × Blk} : ∀ {A H R : Hp}, Cut A H R → Cut A (u :: H) (u :: R)
  | _, _, _, .nil => .nil
  | _, _, _, .cons h k => .cons (.there h) k.skip
/-- an iterator that yields nothing -/
def IterNil (P : Program) (gf : FuncId) (cap : List Value) (Hc : Hp) : Prop := ∀ y, Spec P gf (.func (.yield y) #[] #[] :: cap) Hc (fun _ H' => H' = Hc)
section
variable {X : Cx} {Q : PostT} {l : St} {ds : List Deferred} {H : Hp}
theorem W_rangeNil {g : Operand} {ps : List Nat} {assign body : Code} {gf : FuncId} {cap : List Value} {Hc Hi : Hp} (hro : X.ro = none) (hg : ev l g = some (.func (.func gf) #[] cap.toArray)) (T : FnOk X.P gf) (hit : IterNil X.P gf cap Hi)
    (hpn : ∀ p ∈ ps, p < X.n) (hc : ∃ R, Cut Hi Hc R) (hs : Sub Hc H)
    (hdone : ∀ D, Q .normal l ({ target := .collected D, args := #[] } :: ds) ((D, .oth (.deferred (some []))) :: Hc)) :
    W X (.rangeFunc g ps.toArray assign body) Q l ds H := by
  obtain ⟨R, hc⟩ := hc
  have it : IterOkC X.P gf cap (fun (I _ : Unit → Hp → Prop) => ∀ s H, I s H → ∃ R, Cut Hi H R) (fun _ => False) (fun _ => ps.map fun _ => Value.nilFunc) (fun _ => True) () := by
    unfold IterOkC
    rintro y I J S hC hy H h0
    obtain ⟨R, hcut⟩ := hC () H h0
    refine Spec.perm hcut.perm (((hit y).frame R).permR ?_)
    rintro v H1 ⟨H2, rfl, rfl⟩
    exact ⟨H, .inl ⟨(), trivial, h0⟩, hcut.perm.symm⟩
  refine W_rangeC hro hg T it (fun s => by simp) hpn (fun _ H => H = Hc) (fun _ H => H = Hc) (fun _ _ => False) (fun u v => ?_) ⟨_, rfl, hs⟩ ?_ ?_ ?_
  · rintro s H ⟨_, rfl, rfl⟩
    exact ⟨u :: v :: R, hc.skip.skip⟩
  · rintro y s H w1 rfl h
    exact h.elim
  · rintro D s H _ rfl
    exact hdone D
  · rintro D c H h
    exact h.elim
end
abbrev ajB (b : Nat) : Nat × Blk := (b, .cells [.slice none 0 0] 86)
theorem pairs_nil : Spec Tryz.prog 315 [.slice none 0 0] [] fun v H' => ∃ b, v = .func (.func 388) #[] #[ptrB b] ∧ H' = [ajB b] := by
  refine Spec_body Tryz.func315 rfl Tryz.ntmps315 rfl (fun w0 => ?_)
  repeat (first | refine stepA ?_ | intro _)
  rename_i b
  (first | refine retA ?_ | refine retB ?_)
  exact ⟨_, ⟨b, rfl, rfl⟩, subA⟩
theorem pairs_iter (b : Nat) : IterNil Tryz.prog 388 [ptrB b] [ajB b] := by
  unfold IterNil
  intro y
  refine Spec_body Tryz.func388 rfl Tryz.ntmps388 rfl (fun w0 => ?_)
  repeat (first | refine stepA ?_ | intro _)
  refine W_loop (fun _ : Unit => [(8, .int .i64 0), (9, .int .i64 0)]) (fun _ => [ajB b]) (fun _ => True) (fun _ => 0) () trivial sublA subA ?_
  rintro ⟨⟩ -
  repeat (first | refine stepA ?_ | intro _)
  (first | refine retA ?_ | refine retB ?_)
  exact ⟨_, rfl, subA⟩
theorem uright_nil : Spec Tryz.prog 243 [.slice none 0 0] [] fun v H' => v = .bool true ∧ H' = [] := by
  refine Spec_body Tryz.func243 rfl Tryz.ntmps243 rfl (fun w0 => ?_)
  repeat (first | refine stepA ?_ | intro _)
  rename_i b3
  refine callA ?_; refine ⟨_, _, pairs_nil, _, cutA, ?_⟩
  rintro v H' ⟨b, rfl, rfl⟩
  simp only [List.cons_append, List.nil_append]
  repeat (first | refine stepA ?_ | intro _)
  have inst : FnOk Tryz.prog 388 := inferInstance
  refine W_rangeNil (Hc := [ajB b, (b3, .cells [.bool true] 4)]) rfl (ev_of rfl (by with_reducible rfl)) inst (pairs_iter b) (by simp) ⟨_, cutA⟩ subA ?_
  intro D
  repeat (first | refine stepA ?_ | intro _)
  (first | refine retA ?_ | refine retB ?_); exact ⟨_, ⟨rfl, rfl⟩, subA⟩
theorem ids_nil : Spec Tryz.prog 206 [.slice none 0 0] [] fun v H' => v = .slice none 0 0 ∧ H' = [] := by
  refine Spec_body Tryz.func206 rfl Tryz.ntmps206 rfl (fun w0 => ?_)
  repeat (first | refine stepA ?_ | intro _)
  refine callA ?_; refine ⟨_, _, uright_nil, _, cutA, ?_⟩
  rintro v H' ⟨rfl, rfl⟩
  simp only [List.cons_append, List.nil_append]
  repeat (first | refine stepA ?_ | intro _)
  rename_i b3
  refine callA ?_; refine ⟨_, _, pairs_nil, _, cutA, ?_⟩
  rintro v H' ⟨b, rfl, rfl⟩
  simp only [List.cons_append, List.nil_append]
  repeat (first | refine stepA ?_ | intro _)
  have inst : FnOk Tryz.prog 388 := inferInstance
  refine W_rangeNil (Hc := [ajB b, (b3, .cells [.slice none 0 0] 22)]) rfl (ev_of rfl (by with_reducible rfl)) inst (pairs_iter b) (by simp) ⟨_, cutA⟩ subA ?_
  intro D
  repeat (first | refine stepA ?_ | intro _)
  (first | refine retA ?_ | refine retB ?_); exact ⟨_, ⟨rfl, rfl⟩, subA⟩
theorem closes_nil (k : Nat) : Spec Tryz.prog 129 [ptrB k, .slice none 0 0] [] fun _ H' => H' = [] := by
  refine Spec_body Tryz.func129 rfl Tryz.ntmps129 rfl (fun w0 => ?_)
  repeat (first | refine stepA ?_ | intro _)
  refine W_loop (fun _ : Unit => [(11, .int .i64 0), (12, .int .i64 0)]) (fun _ => []) (fun _ => True) (fun _ => 0) () trivial sublA subA ?_
  rintro ⟨⟩ -
  repeat (first | refine stepA ?_ | intro _)
  (first | refine retA ?_ | refine retB ?_)
  exact ⟨_, rfl, subA⟩
theorem leaves_none (k tb : Nat) (t : TK) : Spec Tryz.prog 111 [ptrB k, ptrB tb] [tkB tb t, amB t.am t.ac] fun _ H' => ∃ am, H' = [tkB tb { t with am := am, ac := 0 }, amB am 0] := by
  refine Spec_body Tryz.func111 rfl Tryz.ntmps111 rfl (fun w0 => ?_)
  repeat (first | refine stepA ?_ | intro _)
  refine callA ?_; refine ⟨_, _, keysI_spec t.am, _, cutA, ?_⟩
  rintro v H' ⟨b, rfl, rfl⟩
  simp only [List.cons_append, List.nil_append]
  have inst : FnOk Tryz.prog 314 := inferInstance
  have hs := sortedKeys inst (keysI_iter b t.am (Ls := []) (c := t.ac) (by simp) (by simp)) (by simp) (by simp) (by simp)
  simp only [List.length_nil] at hs
  repeat (first | refine stepA ?_ | intro _)
  refine callT ?_; refine ⟨_, _, hs, _, cutT, ?_⟩
  rintro v H' ⟨a, cap, Hs, rfl, how, rfl⟩
  simp only [List.cons_append, List.nil_append]
  repeat (first | refine stepA ?_ | intro _)
  refine W_loop (fun _ : Unit => [(1, ptrB tb), (12, .int .i64 0), (13, .int .i64 0)]) (fun _ => [tkB tb t]) (fun _ => True) (fun _ => 0) () trivial sublA subT ?_
  rintro ⟨⟩ -
  repeat (first | refine stepA ?_ | intro _)
  apply L_makeMap
  · exact rfl
  intro am
  repeat (first | refine stepA ?_ | intro _)
  (first | refine retA ?_ | refine retB ?_)
  exact ⟨_, ⟨am, rfl⟩, subA⟩
end Go.Proofs.YtcpfmjlceoiofaaGreatDoor

/-
  The kernel: ends.
-/
namespace Go.Proofs.YtcpfmjlceoiofaaGreatDoor
open Go.RowKit
attribute [local irreducible] W L QL PureOp thenQ blockQ retQ Spec IterOk YSpec roundQ scopeQ noGoQ
attribute [local irreducible] AS ASi IterOkC retD retE
set_option maxHeartbeats 12800000
set_option maxRecDepth 4000
theorem findP_setP_some {L : List PE} {k j : Int} {p : PR} (hp : p.pid = k) : (findP (setP L k p) j).isSome = (findP L j).isSome := by
  induction L with
  | nil => rfl
  | cons x L ih =>
    rw [setP]
    by_cases hk : k = x.p.pid
    · rw [if_pos hk]
      simp only [findP, hp, ← hk]
      split <;> rfl
    · rw [if_neg hk]
      simp only [findP]
      split
      · rfl
      · exact ih
theorem findP_mapP {L : List PE} {f : PR → PR} (hf : ∀ p, (f p).pid = p.pid) (j : Int) : findP (mapP L f) j = (findP L j).map fun x => { x with p := f x.p } := by
  induction L with
  | nil => rfl
  | cons x L ih =>
    simp only [mapP, List.map_cons, findP, hf] at ih ⊢
    split
    · rfl
    · exact ih
theorem findG_setG_some {α : Type} {L : List (GE α)} {k j : Int} {p : α} : (findG (setG L k p) j).isSome = (findG L j).isSome := by
  induction L with
  | nil => rfl
  | cons x L ih =>
    rw [setG]
    by_cases hk : k = x.k
    · rw [if_pos hk]
      simp only [findG]
      split <;> rfl
    · rw [if_neg hk]
      simp only [findG]
      split
      · rfl
      · exact ih
theorem setG_mem {α : Type} {L : List (GE α)} {k : Int} {p : α} {x : GE α} (h : x ∈ setG L k p) : x ∈ L ∨ x.v = p := by
  induction L with
  | nil => cases h
  | cons y L ih =>
    rw [setG] at h
    split at h
    · rcases List.mem_cons.1 h with rfl | h
      · exact .inr rfl
      · exact .inl (List.mem_cons_of_mem _ h)
    · rcases List.mem_cons.1 h with rfl | h
      · exact .inl List.mem_cons_self
      · exact (ih h).imp (List.mem_cons_of_mem _) id
theorem sdropM_wf {M : List Frm} (h : WfM M) (root : Int) : WfM (sdropM M root).2 := by
  rw [sdropM]
  split
  · exact h
  · exact dropM_wf (unmapL_wf h _ _) _
/-- a kernel in which a process has ended -/
abbrev endK (σ : KS) (pid status : Int) (p : PE) (t : GE TK) (am : Nat) (R' : List RowE) (rc' : Nat) : KS :=
  { σ with M := (sdropM σ.M t.v.sp.root).2, L := mapP (setP σ.L pid (endedP p.p status)) (orphan pid), R := R', rc := rc', T := setG σ.T pid { t.v with am := am, ac := 0 } }
section
variable (σ : KS)
theorem kends_spec (hw : WfK σ) (pid status : Int) {p : PE} {t : GE TK} (hp : findP σ.L pid = some p) (hrun : p.p.state = 1) (ht : findG σ.T pid = some t) (hs : 0 ≤ status ∧ status ≤ 255) (h1 : pid ≠ 1) :
    Spec Tryz.prog 112 [ptrB σ.k, .int .i64 pid, .int .i64 status] (kH σ) fun _ H' => ∃ am R' rc', WfK (endK σ pid status p t am R' rc') ∧ findG R' pid = none ∧ (∀ k, k ≠ pid → findG R' k = findG σ.R k) ∧ H' = kH (endK σ pid status p t am R' rc') := by
  obtain ⟨tb, tw, tk, tv⟩ := t
  obtain ⟨ZT, pT, pT2, -⟩ := blkG_at tkB ht
  obtain ⟨ZX, pX, pX2, -⟩ := tkXs_at σ.E ht
  have hwt := hw.Tw _ (findG_mem ht)
  simp only [tkX, List.cons_append] at pT pX hwt pT2 pX2
  have pZ : (kZ σ.L σ.R σ.T σ.E).Perm (tkB tb tv :: amB tv.am tv.ac :: (blkG rowK σ.R ++ (tv.hs ++ (prB σ.L ++ (ZT ++ ZX))))) := by
    classical
    refine List.perm_iff_count.2 fun x => ?_
    have q1 := pT.count_eq x
    have q2 := pX.count_eq x
    simp only [List.count_append, List.count_cons] at q1 q2 ⊢
    rw [q1, q2]
    ac_rfl
  have hpid : 1 ≤ pid ∧ pid ≤ σ.last := by have := hw.L.rng p (findP_mem hp); rwa [findP_pid hp] at this
  have hE : exitE σ.L pid status = 0 := by
    simp only [exitE, runE, hp, Option.elim, hrun, if_true, ne_eq, not_true_eq_false, if_false]
    rw [if_neg (by omega)]
  refine Spec_body Tryz.func112 rfl Tryz.ntmps112 rfl (fun w0 => ?_)
  repeat (first | refine stepA ?_ | intro _)
  (first | (apply L_P; (· exact rfl); (· exact rfl)) | (apply QL_P; (· exact rfl))); (· (apply P_lookup; (· exact evA); (· exact evA); (· exact pullA)))
  rw [getL_g, ht]
  refine L_tail (T := kZ σ.L σ.R σ.T σ.E) pZ ?_
  simp only [List.cons_append, List.nil_append, Option.map_some, Option.getD_some]
  repeat (first | refine stepA ?_ | intro _)
  refine callA ?_; refine ⟨_, _, ids_nil, _, cutA, ?_⟩
  rintro v H' ⟨rfl, rfl⟩
  simp only [List.cons_append, List.nil_append]
  repeat (first | refine stepA ?_ | intro _)
  refine W_loop (fun _ : Unit => [(0, ptrB σ.k), (1, .int .i64 pid), (2, .int .i64 status), (6, ptrB tb), (22, .int .i64 0), (23, .int .i64 0)]) (fun _ => knB σ :: tbB σ.pr σ.mb σ.last :: kvB σ.mb σ.L σ.c :: flB σ.fr σ.fm σ.fc :: rmB σ.fm σ.R σ.rc :: tmB σ.tm σ.T σ.tc :: tkB tb tv :: amB tv.am tv.ac :: (memH σ.m σ.M ++ (blkG rowK σ.R ++ (tv.hs ++ (prB σ.L ++ (ZT ++ ZX)))))) (fun _ => True) (fun _ => 0) () trivial sublA subT ?_
  rintro ⟨⟩ -
  simp only [List.cons_append, List.nil_append]
  repeat (first | refine stepA ?_ | intro _)
  refine callA ?_; refine ⟨_, _, leaves_none σ.k tb tv, _, cutA, ?_⟩
  rintro v H' ⟨am, rfl⟩
  simp only [List.cons_append, List.nil_append]
  have hFi := (fidrop_none σ.fr σ.fm σ.fc hw.R hw.Rn pid hpid.1).frame (tv.hs ++ (prB σ.L ++ (ZT ++ ZX)))
  simp only [List.cons_append, List.nil_append, List.append_assoc] at hFi
  repeat (first | refine stepA ?_ | intro _)
  refine callT ?_; refine ⟨_, _, hFi, _, cutT, ?_⟩
  rintro v H' ⟨H1, ⟨rfl, R', rc', hwR, hnR, hf1, hfR, rfl⟩, rfl⟩
  simp only [List.cons_append, List.nil_append, List.append_assoc]
  repeat (first | refine stepA ?_ | intro _)
  refine callA ?_; refine ⟨_, _, closes_nil σ.k, _, cutA, ?_⟩
  rintro v H' rfl
  simp only [List.cons_append, List.nil_append]
  repeat (first | refine stepA ?_ | intro _)
  refine W_any [knB σ, tkB tb { tv with am := am, ac := 0 }] [] rfl ?_
  refine AS_at 0 (by decide +kernel) ?_; refine takeA ?_
  refine AS_at 1 (by decide +kernel) ?_; refine takeA ?_
  refine AS_at 2 (by decide +kernel) ?_; refine takeA ?_
  refine AS_at 3 (by decide +kernel) ?_; refine takeA ?_
  refine AS_at 4 (by decide +kernel) ?_; refine takeA ?_
  refine AS_at 5 (by decide +kernel) ?_; refine takeA ?_
  refine AS_at 6 (by decide +kernel) ?_; refine takeA ?_
  refine AS_at 7 (by decide +kernel) ?_; refine takeA ?_
  refine AS_one 8 rfl (by decide +kernel) rfl ?_
  refine callA ?_; refine ⟨_, _, sdrop_sp σ.m hw.M tv.sp tv.a tv.n tv.cap, _, cutA, ?_⟩
  rintro v H' ⟨rfl, rfl⟩
  simp only [List.cons_append, List.nil_append]
  refine L_nil ?_; refine ⟨rfl, (by first | exact KeepsH.brk (by decide +kernel) | exact KeepsH.sub subA | exact KeepsH.sub subT), ?_⟩
  refine AS_done (by decide +kernel) ?_
  repeat (first | refine stepA ?_ | intro _)
  refine L_tail (T := blkG rowK R' ++ (tv.hs ++ (prB σ.L ++ (ZT ++ ZX)))) (T' := prB σ.L ++ (blkG rowK R' ++ (tv.hs ++ (ZT ++ ZX)))) permA ?_
  simp only [List.cons_append, List.nil_append]
  have hEx := (prexit_spec σ.pr σ.mb hw.L pid status).frame (blkG rowK R' ++ (tv.hs ++ (ZT ++ ZX)))
  simp only [List.cons_append, List.nil_append, List.append_assoc] at hEx
  refine callT ?_; refine ⟨_, _, hEx, _, cutT, ?_⟩
  rintro v H' ⟨H1, ⟨rfl, (⟨h0, -⟩ | ⟨-, p2, hp2, -, rfl⟩)⟩, rfl⟩
  · exact absurd hE h0
  obtain rfl : p = p2 := by rw [hp] at hp2; exact Option.some.inj hp2
  simp only [List.cons_append, List.nil_append, List.append_assoc]
  repeat (first | refine stepA ?_ | intro _)
  (first | refine retA ?_ | refine retB ?_)
  refine ⟨_, ⟨am, R', rc', ?_, hf1, hfR, rfl⟩, ?_⟩
  · refine ⟨sdropM_wf hw.M _, (hw.L.set (p := endedP p.p status) (findP_pid hp)).map (orphan_pid pid), hwR, hnR, hw.T.set pid _, ?_, ?_, ?_⟩
    · intro y hy
      rcases setG_mem hy with hy | hy
      · exact hw.Tw y hy
      · rw [hy]
        exact ⟨hwt.own, hwt.n, hwt.none⟩
    · intro k
      show (findP (mapP (setP σ.L pid (endedP p.p status)) (orphan pid)) k).isSome = (findG (setG σ.T pid _) k).isSome
      rw [findP_mapP (orphan_pid pid), Option.isSome_map, findP_setP_some (p := endedP p.p status) (findP_pid hp), findG_setG_some]
      exact hw.keys k
    · intro y hy
      by_cases e1 : y.k = pid
      · rw [e1]; exact hpid.2
      · have h5 := hfR y.k e1
        cases h6 : findG R' y.k with
        | none => exact absurd rfl (findG_none.1 h6 y hy)
        | some z =>
          rw [h6] at h5
          have := hw.Rk z (findG_mem h5.symm)
          rwa [findG_key h5.symm] at this
  · obtain ⟨L', hL'⟩ : ∃ L', L' = mapP (setP σ.L pid (endedP p.p status)) (orphan pid) := ⟨_, rfl⟩
    obtain ⟨T', hT'⟩ : ∃ T', T' = setG σ.T pid { tv with am := am, ac := 0 } := ⟨_, rfl⟩
    have q1' := pT2 { tv with am := am, ac := 0 }
    have q2' := pX2 { tv with am := am, ac := 0 }
    rw [← hT'] at q1' q2'
    have e3 : T'.map GE.kv = σ.T.map GE.kv := by rw [hT']; exact setG_kv
    have pF : ((knB σ :: tbB σ.pr σ.mb σ.last :: kvB σ.mb L' σ.c :: flB σ.fr σ.fm σ.fc :: rmB σ.fm R' rc' :: (σ.tm, mapB (T'.map GE.kv) σ.tc) :: (memH σ.m (sdropM σ.M tv.sp.root).2 ++ kZ L' R' T' σ.E)) ++ []).Perm
        (memH σ.m (sdropM σ.M tv.sp.root).2 ++ (tkB tb { tv with am := am, ac := 0 } :: amB am 0 :: knB σ :: (σ.tm, mapB (σ.T.map GE.kv) σ.tc) :: flB σ.fr σ.fm σ.fc :: rmB σ.fm R' rc' :: tbB σ.pr σ.mb σ.last :: kvB σ.mb L' σ.c :: (prB L' ++ (blkG rowK R' ++ (tv.hs ++ (ZT ++ ZX)))))) := by
      rw [e3]
      classical
      refine List.perm_iff_count.2 fun x => ?_
      have q1 := q1'.count_eq x
      have q2 := q2'.count_eq x
      simp only [List.count_append, List.count_cons, List.count_nil, Nat.add_zero, Nat.zero_add] at q1 q2 ⊢
      rw [q1, q2]
      ac_rfl
    subst hL' hT'
    exact Sub.ofPermR pF
end
end Go.Proofs.YtcpfmjlceoiofaaGreatDoor

/-
  The kernel: exit, wait.
-/
namespace Go.Proofs.YtcpfmjlceoiofaaGreatDoor
open Go.RowKit
attribute [local irreducible] W L QL PureOp thenQ blockQ retQ Spec IterOk YSpec roundQ scopeQ noGoQ
attribute [local irreducible] AS ASi IterOkC retD retE
set_option maxHeartbeats 12800000
set_option maxRecDepth 4000
section
variable (σ : KS)
theorem kexit_spec (hw : WfK σ) (wb : Nat) (tp : Value) (uid gid : Int) (pid : Int) (x : CallV) {p : PE} {t : GE TK} (hp : findP σ.L pid = some p) (hrun : p.p.state = 1) (ht : findG σ.T pid = some t) (hs : 0 ≤ x.a ∧ x.a ≤ 255) (h1 : pid ≠ 1) :
    Spec Tryz.prog 52 [ptrB wb] (wkK wb σ.k tp pid uid gid x :: kH σ) fun v H' => v = .tuple #[rs0.val, .nilIface] ∧ ∃ am R' rc', WfK (endK σ pid x.a p t am R' rc') ∧ findG R' pid = none ∧ (∀ k, k ≠ pid → findG R' k = findG σ.R k) ∧ H' = wkK wb σ.k tp pid uid gid x :: kH (endK σ pid x.a p t am R' rc') := by
  refine Spec_body Tryz.func52 rfl Tryz.ntmps52 rfl (fun w0 => ?_)
  have h2 := hs.1
  have h3 := hs.2
  repeat (first | refine stepA ?_ | intro _)
  rename_i b2
  refine W_any [wkK wb σ.k tp pid uid gid x] [] rfl ?_
  refine AS_at 0 (by decide +kernel) ?_; refine takeA ?_
  refine AS_at 1 (by decide +kernel) ?_; refine takeA ?_
  refine AS_at 2 (by decide +kernel) ?_; refine takeA ?_
  refine AS_at 3 (by decide +kernel) ?_; refine takeA ?_
  refine AS_at 4 (by decide +kernel) ?_; refine takeA ?_
  refine AS_at 5 (by decide +kernel) ?_; refine takeA ?_
  refine AS_at 6 (by decide +kernel) ?_; refine takeA ?_
  refine AS_at 7 (by decide +kernel) ?_; refine takeA ?_
  refine AS_at 8 (by decide +kernel) ?_; refine takeA ?_
  refine AS_at 9 (by decide +kernel) ?_; refine takeA ?_
  refine AS_at 10 (by decide +kernel) ?_; refine takeA ?_
  refine AS_at 11 (by decide +kernel) ?_; refine takeA ?_
  refine AS_at 12 (by decide +kernel) ?_; refine takeA ?_
  refine AS_one 13 rfl (by decide +kernel) rfl ?_
  refine callT ?_; refine ⟨_, _, kends_spec σ hw pid x.a hp hrun ht hs h1, _, cutT, ?_⟩
  rintro v H' ⟨am, R', rc', hw2, hf1, hf2, rfl⟩
  simp only [List.cons_append, List.nil_append]
  refine L_nil ?_; refine ⟨rfl, (by first | exact KeepsH.brk (by decide +kernel) | exact KeepsH.sub subA | exact KeepsH.sub subT), ?_⟩
  refine AS_done (by decide +kernel) ?_
  repeat (first | refine stepA ?_ | intro _)
  refine callA ?_; refine ⟨_, _, none_nil, _, cutA, ?_⟩
  rintro v H' ⟨rfl, rfl⟩
  simp only [List.cons_append, List.nil_append]
  repeat (first | refine stepA ?_ | intro _)
  (first | refine retA ?_ | refine retB ?_)
  exact ⟨_, ⟨rfl, am, R', rc', hw2, hf1, hf2, rfl⟩, subT⟩
/-- a kernel from which a child was reaped -/
abbrev reapK (σ : KS) (z : Int) : KS := { σ with L := delP σ.L z, T := delG σ.T z }
theorem findP_del {L : List PE} {k j : Int} (hn : (pidsP L).Nodup) : findP (delP L k) j = if j = k then none else findP L j := by
  induction L with
  | nil => simp [findP, delP]
  | cons y L ih =>
    have hn2 : y.p.pid ∉ pidsP L ∧ (pidsP L).Nodup := by simpa [pidsP] using hn
    rw [delP]
    by_cases hk : k = y.p.pid
    · rw [if_pos hk]
      by_cases hj : j = k
      · rw [if_pos hj]
        refine findP_none.2 fun x hx e => hn2.1 ?_
        rw [← hk, ← hj, ← e]
        exact List.mem_map.2 ⟨x, hx, rfl⟩
      · rw [if_neg hj, findP, if_neg (by rw [← hk]; exact hj)]
    · rw [if_neg hk, findP, findP, ih hn2.2]
      by_cases hj : j = y.p.pid
      · rw [if_pos hj, if_pos hj, if_neg (by rintro rfl; exact hk hj)]
      · rw [if_neg hj, if_neg hj]
theorem WfK.reap {σ : KS} (hw : WfK σ) (z : Int) : WfK (reapK σ z) := by
  refine ⟨hw.M, hw.L.del z, hw.R, hw.Rn, hw.T.del z, fun x hx => hw.Tw x ((delG_sub σ.T z).subset hx), fun k => ?_, hw.Rk⟩
  show (findP (delP σ.L z) k).isSome = (findG (delG σ.T z) k).isSome
  rw [findP_del hw.L.nd, findG_del hw.T.nd]
  split
  · rfl
  · exact hw.keys k
theorem kwait_some (hw : WfK σ) (wb : Nat) (tp : Value) (uid gid : Int) (pid : Int) (x : CallV) {z : PE} (hrun : runE σ.L pid = 0) (hz : waitZ σ.L pid = some z) :
    Spec Tryz.prog 53 [ptrB wb] (wkK wb σ.k tp pid uid gid x :: kH σ) fun v H' => v = .tuple #[RS.val ⟨0, z.p.pid, z.p.status, [], false⟩, .nilIface] ∧ WfK (reapK σ z.p.pid) ∧ H' = wkK wb σ.k tp pid uid gid x :: kH (reapK σ z.p.pid) := by
  refine Spec_body Tryz.func53 rfl Tryz.ntmps53 rfl (fun w0 => ?_)
  have hWt := (prwait_spec σ.pr σ.mb hw.L pid).frame (blkG rowK σ.R ++ (blkG tkB σ.T ++ tkXs σ.T σ.E))
  simp only [List.cons_append, List.nil_append, List.append_assoc] at hWt
  repeat (first | refine stepA ?_ | intro _)
  rename_i b2
  refine W_any [wkK wb σ.k tp pid uid gid x, knB σ] [] rfl ?_
  refine AS_at 0 (by decide +kernel) ?_; refine takeA ?_
  refine AS_at 1 (by decide +kernel) ?_; refine takeA ?_
  refine AS_at 2 (by decide +kernel) ?_; refine takeA ?_
  refine AS_at 3 (by decide +kernel) ?_; refine takeA ?_
  refine AS_at 4 (by decide +kernel) ?_; refine takeA ?_
  refine AS_at 5 (by decide +kernel) ?_; refine takeA ?_
  refine AS_at 6 (by decide +kernel) ?_; refine takeA ?_
  refine AS_at 7 (by decide +kernel) ?_; refine takeA ?_
  refine AS_at 8 (by decide +kernel) ?_; refine takeA ?_
  refine AS_at 9 (by decide +kernel) ?_; refine takeA ?_
  refine AS_at 10 (by decide +kernel) ?_; refine takeA ?_
  refine AS_one 11 rfl (by decide +kernel) rfl ?_
  refine callT ?_; refine ⟨_, _, hWt, _, cutT, ?_⟩
  rintro v H' ⟨H1, (⟨h0, -, -⟩ | ⟨-, h0, -, -⟩ | ⟨-, z2, hz2, hfz, rfl, rfl⟩), rfl⟩
  · exact absurd hrun h0
  · rw [hz] at h0; cases h0
  obtain rfl : z = z2 := by rw [hz] at hz2; exact Option.some.inj hz2
  simp only [List.cons_append, List.nil_append, List.append_assoc]
  refine L_nil ?_; refine ⟨rfl, (by first | exact KeepsH.brk (by decide +kernel) | exact KeepsH.sub subA | exact KeepsH.sub subT), ?_⟩
  refine AS_at 12 (by decide +kernel) ?_; refine takeA ?_
  refine AS_at 13 (by decide +kernel) ?_; refine takeA ?_
  refine AS_at 14 (by decide +kernel) ?_; refine takeA ?_
  refine AS_at 15 (by decide +kernel) ?_; refine takeA ?_
  refine AS_at 16 (by decide +kernel) ?_; refine takeA ?_
  refine AS_at 17 (by decide +kernel) ?_; refine takeA ?_
  refine AS_at 18 (by decide +kernel) ?_; refine takeA ?_
  refine AS_done (by decide +kernel) ?_
  repeat (first | refine stepA ?_ | intro _)
  refine L_delete0 evA evA repA ?_
  repeat (first | refine stepA ?_ | intro _)
  (first | refine retA ?_ | refine retB ?_)
  refine ⟨_, ⟨rfl, hw.reap _, rfl⟩, ?_⟩
  have hTs : (findG σ.T z.p.pid).isSome := by rw [← hw.keys, hfz]; rfl
  obtain ⟨t, ht⟩ := Option.isSome_iff_exists.1 hTs
  obtain ⟨ZT, pT, -, pT2⟩ := blkG_at tkB ht
  obtain ⟨ZX, pX, -, pX2⟩ := tkXs_at σ.E ht
  have pF : ((wkK wb σ.k tp pid uid gid x :: knB σ :: tbB σ.pr σ.mb σ.last :: kvB σ.mb (delP σ.L z.p.pid) σ.c :: flB σ.fr σ.fm σ.fc :: rmB σ.fm σ.R σ.rc :: (σ.tm, mapB ((delG σ.T z.p.pid).map GE.kv) σ.tc) :: (memH σ.m σ.M ++ kZ (delP σ.L z.p.pid) σ.R (delG σ.T z.p.pid) σ.E)) ++ ((b2, .cells (RS.cells ⟨0, z.p.pid, z.p.status, [], false⟩) 31) :: tkB t.b t.v :: tkX t.v)).Perm
      ((b2, .cells (RS.cells ⟨0, z.p.pid, z.p.status, [], false⟩) 31) :: wkK wb σ.k tp pid uid gid x :: knB σ :: flB σ.fr σ.fm σ.fc :: rmB σ.fm σ.R σ.rc :: (σ.tm, mapB (delL (σ.T.map GE.kv) z.p.pid) σ.tc) :: (memH σ.m σ.M ++ (tbB σ.pr σ.mb σ.last :: kvB σ.mb (delP σ.L z.p.pid) σ.c :: (prB (delP σ.L z.p.pid) ++ (blkG rowK σ.R ++ (blkG tkB σ.T ++ tkXs σ.T σ.E)))))) := by
    rw [delG_kv]
    classical
    refine List.perm_iff_count.2 fun x => ?_
    have q1 := pT.count_eq x
    have q2 := pX.count_eq x
    have q3 := pT2.count_eq x
    have q4 := pX2.count_eq x
    simp only [List.count_append, List.count_cons, List.count_nil, Nat.add_zero, Nat.zero_add] at q1 q2 q3 q4 ⊢
    rw [q1, q2, q3, q4]
    ac_rfl
  exact Sub.ofPermR pF
end
end Go.Proofs.YtcpfmjlceoiofaaGreatDoor

/-
  The kernel: deeds, reads, again where nobody waits.
-/
namespace Go.Proofs.YtcpfmjlceoiofaaGreatDoor
open Go.RowKit
section rules
variable {X : Cx} {Q : PostT} {l : St} {ds : List Deferred} {H : Hp} {ops : Array Oper} {rest : List Oper}
variable {d ty : Nat} {pos : String} {after : Array Edge}
theorem L_insN {x ix y : Operand} {t k e r c : Nat} {i : Int} {v : Value} {Ls : List KV} {H' : Hp} [T : TyMap X.P t k e]
    (h : L X ops rest Q l ds H') (hx : ev l x = some (.map (some r)) := by exact evA) (hi : ev l ix = some (.int .i64 i) := by exact evA) (hy : ev l y = some v := by exact evA)
    (hp : Rep H r (mapB Ls c) (mapB (Ls ++ [⟨i, v, c⟩]) (c + 1)) H' := by exact repA) (hin : getL Ls i = none := by rfl) :
    L X ops ({ dst := none, op := .insert t x ix y, type := ty, pos, after, guard := none } :: rest) Q l ds H :=
  L_insNew hx hi hy hin hp h
/-- deeds: numbers and functions, the last one first -/
abbrev deedV (f wb : Nat) : Value := .func (.func f) [ptrB wb].toArray #[]
def dlR (wb : Nat) : List (Int × Nat) → List KV
  | [] => []
  | x :: D => dlR wb D ++ [⟨x.1, deedV x.2 wb, D.length⟩]
def dB (D : List (Int × Nat)) (wb : Nat) : Blk := mapB (dlR wb D) D.length
theorem dlR_keys (wb : Nat) : ∀ (D : List (Int × Nat)) (y : KV), y ∈ dlR wb D → ∃ x ∈ D, y.k = x.1
  | [], y, h => by cases h
  | x :: D, y, h => by
    rcases List.mem_append.1 h with h | h
    · obtain ⟨z, hz, e⟩ := dlR_keys wb D y h
      exact ⟨z, List.mem_cons_of_mem _ hz, e⟩
    · exact ⟨x, List.mem_cons_self, by rw [List.mem_singleton.1 h]⟩
theorem dlR_none {wb : Nat} {D : List (Int × Nat)} {i : Int} (h : D.all (fun x => !decide (x.1 = i)) = true) : getL (dlR wb D) i = none := by
  have : findL i (dlR wb D) 0 = none := findL_none.2 fun y hy e => by
    obtain ⟨x, hx, e2⟩ := dlR_keys wb D y hy
    have := List.all_eq_true.1 h x hx
    simp [← e2, e] at this
  rw [getL, this]
  rfl
theorem L_insD {x ix y : Operand} {t k e r f wb : Nat} {i : Int} {D : List (Int × Nat)} {H' : Hp} [T : TyMap X.P t k e]
    (h : L X ops rest Q l ds H') (hx : ev l x = some (.map (some r)) := by exact evA) (hi : ev l ix = some (.int .i64 i) := by exact evA) (hy : ev l y = some (deedV f wb) := by exact evA)
    (hp : Rep H r (dB D wb) (dB ((i, f) :: D) wb) H' := by exact repA) (hin : D.all (fun x => !decide (x.1 = i)) = true := by decide +kernel) :
    L X ops ({ dst := none, op := .insert t x ix y, type := ty, pos, after, guard := none } :: rest) Q l ds H :=
  L_insNew (v := deedV f wb) hx hi hy (dlR_none hin) hp h
end rules
open Go.RowKit
attribute [local irreducible] W L QL PureOp thenQ blockQ retQ Spec IterOk YSpec roundQ scopeQ noGoQ
attribute [local irreducible] AS ASi IterOkC retD retE
set_option maxHeartbeats 12800000
set_option maxRecDepth 8000
theorem deeds_spec (wb : Nat) : Spec Tryz.prog 26 [ptrB wb] [] fun v H' => ∃ mb Ls c, v = .map (some mb) ∧ H' = [(mb, mapB Ls c)] ∧
    getL Ls 1 = some (deedV 50 wb) ∧ getL Ls 3 = some (deedV 52 wb) ∧ getL Ls 4 = some (deedV 53 wb) ∧
    getL Ls 5 = some (deedV 54 wb) ∧ getL Ls 7 = some (deedV 56 wb) ∧ getL Ls 10 = some (deedV 59 wb) := by
  refine Spec_body Tryz.func26 rfl Tryz.ntmps26 rfl (fun w0 => ?_)
  repeat (first | refine stepA ?_ | intro _)
  apply L_makeMap
  · exact rfl
  intro mb
  change L _ _ _ _ _ _ ((mb, dB [] wb) :: [])
  repeat (first | refine stepA ?_ | refine L_insD ?_)
  (first | refine retA ?_ | refine retB ?_)
  exact ⟨_, ⟨mb, _, _, rfl, rfl, by kernel_rfl, by kernel_rfl, by kernel_rfl, by kernel_rfl, by kernel_rfl, by kernel_rfl⟩, subA⟩
theorem reads_none (wb k : Nat) (tp : Value) (pid uid gid : Int) (x : CallV) (h1 : x.no ≠ 12) (h2 : x.no ≠ 16) (h3 : x.no ≠ 19) : Spec Tryz.prog 25 [ptrB wb] [wkK wb k tp pid uid gid x] fun v H' => v = .nilIface ∧ H' = [wkK wb k tp pid uid gid x] := by
  refine Spec_body Tryz.func25 rfl Tryz.ntmps25 rfl (fun w0 => ?_)
  repeat (first | refine stepA ?_ | intro _)
  (first | refine retA ?_ | refine retB ?_); exact ⟨_, ⟨rfl, rfl⟩, subA⟩
abbrev kpB (b k : Nat) : Nat × Blk := (b, .cells [ptrB k] 25)
theorem sleepers_spec (k : Nat) : Spec Tryz.prog 77 [ptrB k] [] fun v H' => ∃ b, v = .func (.func 167) #[] #[ptrB b] ∧ H' = [kpB b k] := by
  refine Spec_body Tryz.func77 rfl Tryz.ntmps77 rfl (fun w0 => ?_)
  repeat (first | refine stepA ?_ | intro _)
  rename_i b
  (first | refine retA ?_ | refine retB ?_)
  exact ⟨_, ⟨b, rfl, rfl⟩, subA⟩
theorem sleepers_iter (σ : KS) (b : Nat) : IterNil Tryz.prog 167 [ptrB b] [kpB b σ.k, knB σ] := by
  unfold IterNil
  intro y
  refine Spec_body Tryz.func167 rfl Tryz.ntmps167 rfl (fun w0 => ?_)
  repeat (first | refine stepA ?_ | intro _)
  refine W_loop (fun _ : Unit => [(9, .int .i64 0), (10, .int .i64 0)]) (fun _ => [kpB b σ.k, knB σ]) (fun _ => True) (fun _ => 0) () trivial sublA subA ?_
  rintro ⟨⟩ -
  repeat (first | refine stepA ?_ | intro _)
  (first | refine retA ?_ | refine retB ?_)
  exact ⟨_, rfl, subA⟩
theorem again_none (σ : KS) : Spec Tryz.prog 29 [ptrB σ.k] [knB σ] fun v H' => v = .bool false ∧ H' = [knB σ] := by
  refine Spec_body Tryz.func29 rfl Tryz.ntmps29 rfl (fun w0 => ?_)
  repeat (first | refine stepA ?_ | intro _)
  rename_i b1 b3
  refine callA ?_; refine ⟨_, _, sleepers_spec σ.k, _, cutA, ?_⟩
  rintro v H' ⟨b, rfl, rfl⟩
  simp only [List.cons_append, List.nil_append]
  repeat (first | refine stepA ?_ | intro _)
  have inst : FnOk Tryz.prog 167 := inferInstance
  refine W_rangeNil (Hc := [kpB b σ.k, (b3, .cells [.bool false] 4), knB σ]) rfl (ev_of rfl (by with_reducible rfl)) inst (sleepers_iter σ b) (by simp) ⟨_, cutA⟩ subA ?_
  intro D
  repeat (first | refine stepA ?_ | intro _)
  (first | refine retA ?_ | refine retB ?_); exact ⟨_, ⟨rfl, rfl⟩, subA⟩
end Go.Proofs.YtcpfmjlceoiofaaGreatDoor
