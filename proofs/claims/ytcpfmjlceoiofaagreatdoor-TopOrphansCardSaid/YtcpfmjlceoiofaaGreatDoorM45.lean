/-
  Joined texts; each begins with its own sentence.
-/
import Derived.Test.YtcpfmjlceoiofaaGreatDoorM44
set_option linter.unusedSimpArgs false
set_option linter.unusedVariables false
set_option linter.unusedSectionVars false
/-
  The kernel: exit, wait.
-/
namespace Go.Proofs.YtcpfmjlceoiofaaGreatDoor
open Go.RowKit
attribute [local irreducible] W L QL PureOp thenQ blockQ retQ Spec IterOk YSpec roundQ scopeQ noGoQ
attribute [local irreducible] AS ASi IterOkC retD retE
set_option maxHeartbeats 12800000
set_option maxRecDepth 4000
section
variable (σ : KS)
theorem kexit_spec (hw : WfK σ) (wb : Nat) (tp : Value) (uid gid : Int) (pid : Int) (x : CallV) {p : PE} {t : GE TK} (hp : findP σ.L pid = some p) (hrun : p.p.state = 1) (ht : findG σ.T pid = some t) (hs : 0 ≤ x.a ∧ x.a ≤ 255) (h1 : pid ≠ 1) :
    Spec Tryz.prog 52 [ptrB wb] (wkK wb σ.k tp pid uid gid x :: kH σ) fun v H' => v = .tuple #[rs0.val, .nilIface] ∧ ∃ am R' rc', WfK (endK σ pid x.a p t am R' rc') ∧ findG R' pid = none ∧ (∀ k, k ≠ pid → findG R' k = findG σ.R k) ∧ H' = wkK wb σ.k tp pid uid gid x :: kH (endK σ pid x.a p t am R' rc') := by
  refine Spec_body Tryz.func52 rfl Tryz.ntmps52 rfl (fun w0 => ?_)
  have h2 := hs.1
  have h3 := hs.2
  repeat (first | refine stepA ?_ | intro _)
  rename_i b2
  refine W_any [wkK wb σ.k tp pid uid gid x] [] rfl ?_
  refine AS_at 0 (by decide +kernel) ?_; refine takeA ?_
  refine AS_at 1 (by decide +kernel) ?_; refine takeA ?_
  refine AS_at 2 (by decide +kernel) ?_; refine takeA ?_
  refine AS_at 3 (by decide +kernel) ?_; refine takeA ?_
  refine AS_at 4 (by decide +kernel) ?_; refine takeA ?_
  refine AS_at 5 (by decide +kernel) ?_; refine takeA ?_
  refine AS_at 6 (by decide +kernel) ?_; refine takeA ?_
  refine AS_at 7 (by decide +kernel) ?_; refine takeA ?_
  refine AS_at 8 (by decide +kernel) ?_; refine takeA ?_
  refine AS_at 9 (by decide +kernel) ?_; refine takeA ?_
  refine AS_at 10 (by decide +kernel) ?_; refine takeA ?_
  refine AS_at 11 (by decide +kernel) ?_; refine takeA ?_
  refine AS_at 12 (by decide +kernel) ?_; refine takeA ?_
  refine AS_one 13 rfl (by decide +kernel) rfl ?_
  refine callT ?_; refine ⟨_, _, kends_spec σ hw pid x.a hp hrun ht hs h1, _, cutT, ?_⟩
  rintro v H' ⟨am, R', rc', hw2, hf1, hf2, rfl⟩
  simp only [List.cons_append, List.nil_append]
  refine L_nil ?_; refine ⟨rfl, (by first | exact KeepsH.brk (by decide +kernel) | exact KeepsH.sub subA | exact KeepsH.sub subT), ?_⟩
  refine AS_done (by decide +kernel) ?_
  repeat (first | refine stepA ?_ | intro _)
  refine callA ?_; refine ⟨_, _, none_nil, _, cutA, ?_⟩
  rintro v H' ⟨rfl, rfl⟩
  simp only [List.cons_append, List.nil_append]
  repeat (first | refine stepA ?_ | intro _)
  (first | refine retA ?_ | refine retB ?_)
  exact ⟨_, ⟨rfl, am, R', rc', hw2, hf1, hf2, rfl⟩, subT⟩
/-- a kernel from which a child was reaped -/
abbrev reapK (σ : KS) (z : Int) : KS := { σ with L := delP σ.L z, T := delG σ.T z }
theorem findP_del {L : List PE} {k j : Int} (hn : (pidsP L).Nodup) : findP (delP L k) j = if j = k then none else findP L j := by
  induction L with
  | nil => simp [findP, delP]
  | cons y L ih =>
    have hn2 : y.p.pid ∉ pidsP L ∧ (pidsP L).Nodup := by simpa [pidsP] using hn
    rw [delP]
    by_cases hk : k = y.p.pid
    · rw [if_pos hk]
      by_cases hj : j = k
      · rw [if_pos hj]
        refine findP_none.2 fun x hx e => hn2.1 ?_
        rw [← hk, ← hj, ← e]
        exact List.mem_map.2 ⟨x, hx, rfl⟩
      · rw [if_neg hj, findP, if_neg (by rw [← hk]; exact hj)]
    · rw [if_neg hk, findP, findP, ih hn2.2]
      by_cases hj : j = y.p.pid
      · rw [if_pos hj, if_pos hj, if_neg (by rintro rfl; exact hk hj)]
      · rw [if_neg hj, if_neg hj]
theorem WfK.reap {σ : KS} (hw : WfK σ) (z : Int) : WfK (reapK σ z) := by
  refine ⟨hw.M, hw.L.del z, hw.R, hw.Rn, hw.T.del z, fun x hx => hw.Tw x ((delG_sub σ.T z).subset hx), fun k => ?_, hw.Rk⟩
  show (findP (delP σ.L z) k).isSome = (findG (delG σ.T z) k).isSome
  rw [findP_del hw.L.nd, findG_del hw.T.nd]
  split
  · rfl
  · exact hw.keys k
theorem kwait_some (hw : WfK σ) (wb : Nat) (tp : Value) (uid gid : Int) (pid : Int) (x : CallV) {z : PE} (hrun : runE σ.L pid = 0) (hz : waitZ σ.L pid = some z) :
    Spec Tryz.prog 53 [ptrB wb] (wkK wb σ.k tp pid uid gid x :: kH σ) fun v H' => v = .tuple #[RS.val ⟨0, z.p.pid, z.p.status, [], false⟩, .nilIface] ∧ WfK (reapK σ z.p.pid) ∧ H' = wkK wb σ.k tp pid uid gid x :: kH (reapK σ z.p.pid) := by
  refine Spec_body Tryz.func53 rfl Tryz.ntmps53 rfl (fun w0 => ?_)
  have hWt := (prwait_spec σ.pr σ.mb hw.L pid).frame (blkG rowK σ.R ++ (blkG tkB σ.T ++ tkXs σ.T))
  simp only [List.cons_append, List.nil_append, List.append_assoc] at hWt
  repeat (first | refine stepA ?_ | intro _)
  rename_i b2
  refine W_any [wkK wb σ.k tp pid uid gid x, knB σ] [] rfl ?_
  refine AS_at 0 (by decide +kernel) ?_; refine takeA ?_
  refine AS_at 1 (by decide +kernel) ?_; refine takeA ?_
  refine AS_at 2 (by decide +kernel) ?_; refine takeA ?_
  refine AS_at 3 (by decide +kernel) ?_; refine takeA ?_
  refine AS_at 4 (by decide +kernel) ?_; refine takeA ?_
  refine AS_at 5 (by decide +kernel) ?_; refine takeA ?_
  refine AS_at 6 (by decide +kernel) ?_; refine takeA ?_
  refine AS_at 7 (by decide +kernel) ?_; refine takeA ?_
  refine AS_at 8 (by decide +kernel) ?_; refine takeA ?_
  refine AS_at 9 (by decide +kernel) ?_; refine takeA ?_
  refine AS_at 10 (by decide +kernel) ?_; refine takeA ?_
  refine AS_one 11 rfl (by decide +kernel) rfl ?_
  refine callT ?_; refine ⟨_, _, hWt, _, cutT, ?_⟩
  rintro v H' ⟨H1, (⟨h0, -, -⟩ | ⟨-, h0, -, -⟩ | ⟨-, z2, hz2, hfz, rfl, rfl⟩), rfl⟩
  · exact absurd hrun h0
  · rw [hz] at h0; cases h0
  obtain rfl : z = z2 := by rw [hz] at hz2; exact Option.some.inj hz2
  simp only [List.cons_append, List.nil_append, List.append_assoc]
  refine L_nil ?_; refine ⟨rfl, (by first | exact KeepsH.brk (by decide +kernel) | exact KeepsH.sub subA | exact KeepsH.sub subT), ?_⟩
  refine AS_at 12 (by decide +kernel) ?_; refine takeA ?_
  refine AS_at 13 (by decide +kernel) ?_; refine takeA ?_
  refine AS_at 14 (by decide +kernel) ?_; refine takeA ?_
  refine AS_at 15 (by decide +kernel) ?_; refine takeA ?_
  refine AS_at 16 (by decide +kernel) ?_; refine takeA ?_
  refine AS_at 17 (by decide +kernel) ?_; refine takeA ?_
  refine AS_at 18 (by decide +kernel) ?_; refine takeA ?_
  refine AS_done (by decide +kernel) ?_
  repeat (first | refine stepA ?_ | intro _)
  refine L_delete0 evA evA repA ?_
  repeat (first | refine stepA ?_ | intro _)
  (first | refine retA ?_ | refine retB ?_)
  refine ⟨_, ⟨rfl, hw.reap _, rfl⟩, ?_⟩
  have hTs : (findG σ.T z.p.pid).isSome := by rw [← hw.keys, hfz]; rfl
  obtain ⟨t, ht⟩ := Option.isSome_iff_exists.1 hTs
  obtain ⟨ZT, pT, -, pT2⟩ := blkG_at tkB ht
  obtain ⟨ZX, pX, -, pX2⟩ := tkXs_at ht
  have pF : ((wkK wb σ.k tp pid uid gid x :: knB σ :: tbB σ.pr σ.mb σ.last :: kvB σ.mb (delP σ.L z.p.pid) σ.c :: flB σ.fr σ.fm 0 :: rmB σ.fm σ.R σ.rc :: (σ.tm, mapB ((delG σ.T z.p.pid).map GE.kv) σ.tc) :: (memH σ.m σ.M ++ kZ (delP σ.L z.p.pid) σ.R (delG σ.T z.p.pid))) ++ ((b2, .cells (RS.cells ⟨0, z.p.pid, z.p.status, [], false⟩) 31) :: tkB t.b t.v :: tkX t.v)).Perm
      ((b2, .cells (RS.cells ⟨0, z.p.pid, z.p.status, [], false⟩) 31) :: wkK wb σ.k tp pid uid gid x :: knB σ :: flB σ.fr σ.fm 0 :: rmB σ.fm σ.R σ.rc :: (σ.tm, mapB (delL (σ.T.map GE.kv) z.p.pid) σ.tc) :: (memH σ.m σ.M ++ (tbB σ.pr σ.mb σ.last :: kvB σ.mb (delP σ.L z.p.pid) σ.c :: (prB (delP σ.L z.p.pid) ++ (blkG rowK σ.R ++ (blkG tkB σ.T ++ tkXs σ.T)))))) := by
    rw [delG_kv]
    classical
    refine List.perm_iff_count.2 fun x => ?_
    have q1 := pT.count_eq x
    have q2 := pX.count_eq x
    have q3 := pT2.count_eq x
    have q4 := pX2.count_eq x
    simp only [List.count_append, List.count_cons, List.count_nil, Nat.add_zero, Nat.zero_add] at q1 q2 q3 q4 ⊢
    rw [q1, q2, q3, q4]
    ac_rfl
  exact Sub.ofPermR pF
end
end Go.Proofs.YtcpfmjlceoiofaaGreatDoor

/-
  The kernel: deeds, reads, again where nobody waits.
-/
namespace Go.Proofs.YtcpfmjlceoiofaaGreatDoor
open Go.RowKit
section rules
variable {X : Cx} {Q : PostT} {l : St} {ds : List Deferred} {H : Hp} {ops : Array Oper} {rest : List Oper}
variable {d ty : Nat} {pos : String} {after : Array Edge}
theorem L_insN {x ix y : Operand} {t k e r c : Nat} {i : Int} {v : Value} {Ls : List KV} {H' : Hp} [T : TyMap X.P t k e]
    (h : L X ops rest Q l ds H') (hx : ev l x = some (.map (some r)) := by exact evA) (hi : ev l ix = some (.int .i64 i) := by exact evA) (hy : ev l y = some v := by exact evA)
    (hp : Rep H r (mapB Ls c) (mapB (Ls ++ [⟨i, v, c⟩]) (c + 1)) H' := by exact repA) (hin : getL Ls i = none := by rfl) :
    L X ops ({ dst := none, op := .insert t x ix y, type := ty, pos, after, guard := none } :: rest) Q l ds H :=
  L_insNew hx hi hy hin hp h
/-- deeds: numbers and functions, the last one first -/
abbrev deedV (f wb : Nat) : Value := .func (.func f) [ptrB wb].toArray #[]
def dlR (wb : Nat) : List (Int × Nat) → List KV
  | [] => []
  | x :: D => dlR wb D ++ [⟨x.1, deedV x.2 wb, D.length⟩]
def dB (D : List (Int × Nat)) (wb : Nat) : Blk := mapB (dlR wb D) D.length
theorem dlR_keys (wb : Nat) : ∀ (D : List (Int × Nat)) (y : KV), y ∈ dlR wb D → ∃ x ∈ D, y.k = x.1
  | [], y, h => by cases h
  | x :: D, y, h => by
    rcases List.mem_append.1 h with h | h
    · obtain ⟨z, hz, e⟩ := dlR_keys wb D y h
      exact ⟨z, List.mem_cons_of_mem _ hz, e⟩
    · exact ⟨x, List.mem_cons_self, by rw [List.mem_singleton.1 h]⟩
theorem dlR_none {wb : Nat} {D : List (Int × Nat)} {i : Int} (h : D.all (fun x => !decide (x.1 = i)) = true) : getL (dlR wb D) i = none := by
  have : findL i (dlR wb D) 0 = none := findL_none.2 fun y hy e => by
    obtain ⟨x, hx, e2⟩ := dlR_keys wb D y hy
    have := List.all_eq_true.1 h x hx
    simp [← e2, e] at this
  rw [getL, this]
  rfl
theorem L_insD {x ix y : Operand} {t k e r f wb : Nat} {i : Int} {D : List (Int × Nat)} {H' : Hp} [T : TyMap X.P t k e]
    (h : L X ops rest Q l ds H') (hx : ev l x = some (.map (some r)) := by exact evA) (hi : ev l ix = some (.int .i64 i) := by exact evA) (hy : ev l y = some (deedV f wb) := by exact evA)
    (hp : Rep H r (dB D wb) (dB ((i, f) :: D) wb) H' := by exact repA) (hin : D.all (fun x => !decide (x.1 = i)) = true := by decide +kernel) :
    L X ops ({ dst := none, op := .insert t x ix y, type := ty, pos, after, guard := none } :: rest) Q l ds H :=
  L_insNew (v := deedV f wb) hx hi hy (dlR_none hin) hp h
end rules
open Go.RowKit
attribute [local irreducible] W L QL PureOp thenQ blockQ retQ Spec IterOk YSpec roundQ scopeQ noGoQ
attribute [local irreducible] AS ASi IterOkC retD retE
set_option maxHeartbeats 12800000
set_option maxRecDepth 8000
theorem deeds_spec (wb : Nat) : Spec Tryz.prog 26 [ptrB wb] [] fun v H' => ∃ mb Ls c, v = .map (some mb) ∧ H' = [(mb, mapB Ls c)] ∧
    getL Ls 1 = some (deedV 50 wb) ∧ getL Ls 3 = some (deedV 52 wb) ∧ getL Ls 4 = some (deedV 53 wb) ∧
    getL Ls 5 = some (deedV 54 wb) ∧ getL Ls 7 = some (deedV 56 wb) ∧ getL Ls 10 = some (deedV 59 wb) := by
  refine Spec_body Tryz.func26 rfl Tryz.ntmps26 rfl (fun w0 => ?_)
  repeat (first | refine stepA ?_ | intro _)
  apply L_makeMap
  · exact rfl
  intro mb
  change L _ _ _ _ _ _ ((mb, dB [] wb) :: [])
  repeat (first | refine stepA ?_ | refine L_insD ?_)
  (first | refine retA ?_ | refine retB ?_)
  exact ⟨_, ⟨mb, _, _, rfl, rfl, by kernel_rfl, by kernel_rfl, by kernel_rfl, by kernel_rfl, by kernel_rfl, by kernel_rfl⟩, subA⟩
theorem reads_none (wb k : Nat) (tp : Value) (pid uid gid : Int) (x : CallV) (h1 : x.no ≠ 12) (h2 : x.no ≠ 16) (h3 : x.no ≠ 19) : Spec Tryz.prog 25 [ptrB wb] [wkK wb k tp pid uid gid x] fun v H' => v = .nilIface ∧ H' = [wkK wb k tp pid uid gid x] := by
  refine Spec_body Tryz.func25 rfl Tryz.ntmps25 rfl (fun w0 => ?_)
  repeat (first | refine stepA ?_ | intro _)
  (first | refine retA ?_ | refine retB ?_); exact ⟨_, ⟨rfl, rfl⟩, subA⟩
abbrev kpB (b k : Nat) : Nat × Blk := (b, .cells [ptrB k] 25)
theorem sleepers_spec (k : Nat) : Spec Tryz.prog 77 [ptrB k] [] fun v H' => ∃ b, v = .func (.func 167) #[] #[ptrB b] ∧ H' = [kpB b k] := by
  refine Spec_body Tryz.func77 rfl Tryz.ntmps77 rfl (fun w0 => ?_)
  repeat (first | refine stepA ?_ | intro _)
  rename_i b
  (first | refine retA ?_ | refine retB ?_)
  exact ⟨_, ⟨b, rfl, rfl⟩, subA⟩
theorem sleepers_iter (σ : KS) (b : Nat) : IterNil Tryz.prog 167 [ptrB b] [kpB b σ.k, knB σ] := by
  unfold IterNil
  intro y
  refine Spec_body Tryz.func167 rfl Tryz.ntmps167 rfl (fun w0 => ?_)
  repeat (first | refine stepA ?_ | intro _)
  refine W_loop (fun _ : Unit => [(9, .int .i64 0), (10, .int .i64 0)]) (fun _ => [kpB b σ.k, knB σ]) (fun _ => True) (fun _ => 0) () trivial sublA subA ?_
  rintro ⟨⟩ -
  repeat (first | refine stepA ?_ | intro _)
  (first | refine retA ?_ | refine retB ?_)
  exact ⟨_, rfl, subA⟩
theorem again_none (σ : KS) : Spec Tryz.prog 29 [ptrB σ.k] [knB σ] fun v H' => v = .bool false ∧ H' = [knB σ] := by
  refine Spec_body Tryz.func29 rfl Tryz.ntmps29 rfl (fun w0 => ?_)
  repeat (first | refine stepA ?_ | intro _)
  rename_i b1 b3
  refine callA ?_; refine ⟨_, _, sleepers_spec σ.k, _, cutA, ?_⟩
  rintro v H' ⟨b, rfl, rfl⟩
  simp only [List.cons_append, List.nil_append]
  repeat (first | refine stepA ?_ | intro _)
  have inst : FnOk Tryz.prog 167 := inferInstance
  refine W_rangeNil (Hc := [kpB b σ.k, (b3, .cells [.bool false] 4), knB σ]) rfl (ev_of rfl (by with_reducible rfl)) inst (sleepers_iter σ b) (by simp) ⟨_, cutA⟩ subA ?_
  intro D
  repeat (first | refine stepA ?_ | intro _)
  (first | refine retA ?_ | refine retB ?_); exact ⟨_, ⟨rfl, rfl⟩, subA⟩
end Go.Proofs.YtcpfmjlceoiofaaGreatDoor

/-
  The kernel: Step.
-/
namespace Go.Proofs.YtcpfmjlceoiofaaGreatDoor
open Go.RowKit
attribute [local irreducible] W L QL PureOp thenQ blockQ retQ Spec IterOk YSpec roundQ scopeQ noGoQ
attribute [local irreducible] AS ASi IterOkC retD retE
set_option maxHeartbeats 12800000
set_option maxRecDepth 8000
abbrev setR (σ : KS) (pid : Int) (t : GE TK) (rs : RS) : KS := { σ with T := setG σ.T pid { t.v with r := rs } }
theorem WfK.setR {σ : KS} (hw : WfK σ) {pid : Int} {t : GE TK} (ht : findG σ.T pid = some t) (rs : RS) : WfK (setR σ pid t rs) := by
  refine ⟨hw.M, hw.L, hw.R, hw.Rn, hw.T.set pid _, ?_, ?_, hw.Rk⟩
  · intro y hy
    rcases setG_mem hy with hy | hy
    · exact hw.Tw y hy
    · rw [hy]
      have := hw.Tw t (findG_mem ht)
      exact ⟨this.own, this.n, this.none⟩
  · intro k
    show (findP σ.L k).isSome = (findG (setG σ.T pid _) k).isSome
    rw [findG_setG_some]
    exact hw.keys k
theorem fitR : FitK [.int .i64, .int .i64, .int .i64, .str, .bool] rs0.cells := by
  refine ⟨rfl, fun j k h => ?_⟩
  match j, h with
  | 0, h => cases h; exact ⟨_, rfl, 0, rfl⟩
  | 1, h => cases h; exact ⟨_, rfl, 0, rfl⟩
  | 2, h => cases h; exact ⟨_, rfl, 0, rfl⟩
  | 3, h => cases h; exact ⟨_, rfl, _, rfl⟩
  | 4, h => cases h; exact ⟨_, rfl, _, rfl⟩
section
variable (σ : KS)
theorem step_gen (pid : Int) (x : CallV) {p : PE} {t : GE TK} (hp : findP σ.L pid = some p) (hrun : p.p.state = 1) (ht : findG σ.T pid = some t) (hr : RightP x) (h12 : x.no ≠ 12) (h16 : x.no ≠ 16) (h19 : x.no ≠ 19)
    (f : FuncId) (inst : FnOk Tryz.prog f) (rs : RS) (hrw : rs.w = false) (Pσ : KS → Prop)
    (hsel : ∀ wb Ls, getL Ls 1 = some (deedV 50 wb) ∧ getL Ls 3 = some (deedV 52 wb) ∧ getL Ls 4 = some (deedV 53 wb) ∧
      getL Ls 5 = some (deedV 54 wb) ∧ getL Ls 7 = some (deedV 56 wb) ∧ getL Ls 10 = some (deedV 59 wb) → getL Ls x.no = some (deedV f wb))
    (hd : ∀ wb, Spec Tryz.prog f [ptrB wb] (wkK wb σ.k t.ptr pid p.p.uid p.p.gid x :: kH σ) fun v H' => v = .tuple #[rs.val, .nilIface] ∧ ∃ σ', Pσ σ' ∧ H' = wkK wb σ.k t.ptr pid p.p.uid p.p.gid x :: kH σ')
    (hP : ∀ σ', Pσ σ' → σ'.k = σ.k ∧ ∃ t', findG σ'.T pid = some t' ∧ t'.b = t.b) :
    Spec Tryz.prog 11 [ptrB σ.k, .int .i64 pid, .agg x.cells.toArray] (kH σ) fun v H' => v = rs.val ∧ ∃ σ' t', Pσ σ' ∧ findG σ'.T pid = some t' ∧ t'.b = t.b ∧ H' = kH (setR σ' pid t' rs) := by
  obtain ⟨re, rn, rm, rss, rw⟩ := rs
  simp only at hrw
  subst hrw
  refine Spec_body Tryz.func11 rfl Tryz.ntmps11 rfl (fun w0 => ?_)
  have hg := (prget_spec σ.pr σ.mb σ.last σ.L σ.c pid).frame (blkG rowK σ.R ++ (blkG tkB σ.T ++ tkXs σ.T))
  simp only [hp, fndE, Option.elim, Option.map_some, Option.getD_some, List.cons_append, List.nil_append] at hg
  repeat (first | refine stepA ?_ | intro _)
  rename_i b5 b6
  refine callT ?_; refine ⟨_, _, hg, _, cutT, ?_⟩
  rintro v H' ⟨H1, ⟨rfl, rfl⟩, rfl⟩
  simp only [List.cons_append, List.nil_append]
  repeat (first | refine stepA ?_ | intro _)
  rename_i b7
  refine callA ?_; refine ⟨_, _, right_spec x, _, cutA, ?_⟩
  rintro v H' ⟨rfl, rfl⟩
  simp only [List.cons_append, List.nil_append]
  rw [decide_eq_true hr]
  repeat (first | refine stepA ?_ | intro _)
  refine callT ?_; refine ⟨_, _, worker_spec σ pid x hp ht, _, cutT, ?_⟩
  rintro v H' ⟨wb, rfl, rfl⟩
  simp only [List.cons_append, List.nil_append]
  repeat (first | refine stepA ?_ | intro _)
  refine callA ?_; refine ⟨_, _, reads_none wb σ.k t.ptr pid p.p.uid p.p.gid x h12 h16 h19, _, cutA, ?_⟩
  rintro v H' ⟨rfl, rfl⟩
  simp only [List.cons_append, List.nil_append]
  repeat (first | refine stepA ?_ | intro _)
  refine callA ?_; refine ⟨_, _, result_nil rs0, _, cutA, ?_⟩
  rintro v H' ⟨rfl, rfl⟩
  simp only [List.cons_append, List.nil_append]
  repeat (first | refine stepA ?_ | intro _)
  rename_i b10 b11
  (first | (apply L_P; (· exact rfl); (· exact rfl)) | (apply QL_P; (· exact rfl)))
  · exact P_eqS (xs := rs0.cells) (ys := rs0.cells) (b := true) (ev_of rfl rfl) (ev_of rfl rfl) fitR fitR (by simp)
  repeat (first | refine stepA ?_ | intro _)
  refine W_any [(b10, .cells rs0.cells 31), (b5, .cells x.cells 34)] [9] rfl ?_
  refine AS_at 0 (by decide +kernel) ?_; refine takeA ?_
  refine AS_at 2 (by decide +kernel) ?_; refine takeA ?_
  refine AS_at 3 (by decide +kernel) ?_; refine takeA ?_
  refine AS_one 1 rfl (by decide +kernel) rfl ?_
  refine callA ?_; refine ⟨_, _, deeds_spec wb, _, cutA, ?_⟩
  rintro v H' ⟨mb, Ls, dc, rfl, rfl, hLs⟩
  simp only [List.cons_append, List.nil_append]
  refine L_nil ?_; refine ⟨rfl, (by first | exact KeepsH.brk (by decide +kernel) | exact KeepsH.sub subA | exact KeepsH.sub subT), ?_⟩
  refine AS_one 4 rfl (by decide +kernel) rfl ?_
  (first | (apply L_P; (· exact rfl); (· exact rfl)) | (apply QL_P; (· exact rfl))); (· (apply P_lookup; (· exact evA); (· exact evA); (· exact pullA)))
  rw [hsel wb Ls hLs, Option.getD_some]
  refine L_nil ?_; refine ⟨rfl, (by first | exact KeepsH.brk (by decide +kernel) | exact KeepsH.sub subA | exact KeepsH.sub subT), ?_⟩
  refine AS_one 5 rfl (by decide +kernel) rfl ?_
  refine callBT (f := f) (pre := [ptrB wb]) ?_
  refine ⟨_, _, hd wb, _, cutT, ?_⟩
  rintro v H' ⟨rfl, σ', hP1, rfl⟩
  simp only [List.cons_append, List.nil_append]
  refine L_nil ?_; refine ⟨rfl, (by first | exact KeepsH.brk (by decide +kernel) | exact KeepsH.sub subA | exact KeepsH.sub subT), ?_⟩
  refine AS_at 6 (by decide +kernel) ?_; refine takeA ?_
  refine AS_at 7 (by decide +kernel) ?_; refine takeA ?_
  refine AS_one 8 rfl (by decide +kernel) rfl ?_
  refine callA ?_; refine ⟨_, _, result_nil ⟨re, rn, rm, rss, false⟩, _, cutA, ?_⟩
  rintro v H' ⟨rfl, rfl⟩
  simp only [List.cons_append, List.nil_append]
  refine L_nil ?_; refine ⟨rfl, (by first | exact KeepsH.brk (by decide +kernel) | exact KeepsH.sub subA | exact KeepsH.sub subT), ?_⟩
  refine AS_one 9 rfl (by decide +kernel) rfl ?_
  refine stepA ?_
  refine L_nil ?_; refine ⟨rfl, (by first | exact KeepsH.brk (by decide +kernel) | exact KeepsH.sub subA | exact KeepsH.sub subT), ?_⟩
  refine AS_done (by decide +kernel) ?_
  obtain ⟨hk, t', ht', htb⟩ := hP σ' hP1
  have hag := again_none σ'
  rw [hk] at hag
  obtain ⟨tb, tw, tk, tv⟩ := t'
  simp only at htb
  subst htb
  obtain ⟨ZT, pT, pT2, -⟩ := blkG_at tkB ht'
  obtain ⟨ZX, pX, pX2, -⟩ := tkXs_at ht'
  simp only at pT pX pT2 pX2
  have pZ : (kZ σ'.L σ'.R σ'.T).Perm (tkB t.b tv :: (prB σ'.L ++ (blkG rowK σ'.R ++ (ZT ++ tkXs σ'.T)))) := by
    classical
    refine List.perm_iff_count.2 fun x => ?_
    have q1 := pT.count_eq x
    simp only [List.count_append, List.count_cons] at q1 ⊢
    rw [q1]
    ac_rfl
  repeat (first | refine stepA ?_ | intro _)
  refine W_tail (T := kZ σ'.L σ'.R σ'.T) pZ ?_
  simp only [List.cons_append, List.nil_append]
  refine W_any [wkK wb σ.k (ptrB t.b) pid p.p.uid p.p.gid x, (b10, .cells (RS.cells ⟨re, rn, rm, rss, false⟩) 31)] [7] rfl ?_
  refine AS_at 0 (by decide +kernel) ?_; refine takeA ?_
  refine AS_at 1 (by decide +kernel) ?_; refine takeA ?_
  refine AS_at 2 (by decide +kernel) ?_; refine takeA ?_
  refine AS_at 3 (by decide +kernel) ?_; refine takeA ?_
  refine AS_at 4 (by decide +kernel) ?_; refine takeA ?_
  refine AS_at 5 (by decide +kernel) ?_; refine takeA ?_
  refine AS_at 6 (by decide +kernel) ?_; refine takeA ?_
  refine AS_one 7 rfl (by decide +kernel) rfl ?_
  refine L_store (cs := RS.cells ⟨re, rn, rm, rss, false⟩) (Ln := ({ tv with r := ⟨re, rn, rm, rss, false⟩ } : TK).cells) evA evA rfl rfl (fun u hu => List.all_eq_true.1 (show List.all (RS.cells ⟨re, rn, rm, rss, false⟩) (fun u => u.oneCell') = true from rfl) u hu) repA rfl (by simp) ?_
  refine L_nil ?_; refine ⟨rfl, (by first | exact KeepsH.brk (by decide +kernel) | exact KeepsH.sub subA | exact KeepsH.sub subT), ?_⟩
  refine AS_done (by decide +kernel) ?_
  repeat (first | refine stepA ?_ | intro _)
  obtain ⟨nt, hnt⟩ : ∃ nt : TK, nt = { tv with r := ⟨re, rn, rm, rss, false⟩ } := ⟨_, rfl⟩
  refine W_loop (fun _ : Unit => [(0, ptrB σ.k), (6, ptrB b6), (10, ptrB b10)]) (fun _ => (b10, .cells (RS.cells ⟨re, rn, rm, rss, false⟩) 31) :: (b6, .cells rs0.cells 31) :: knB σ' :: tbB σ'.pr σ'.mb σ'.last :: kvB σ'.mb σ'.L σ'.c :: flB σ'.fr σ'.fm 0 :: rmB σ'.fm σ'.R σ'.rc :: tmB σ'.tm σ'.T σ'.tc :: (memH σ'.m σ'.M ++ (tkB t.b nt :: (prB σ'.L ++ (blkG rowK σ'.R ++ (ZT ++ tkXs σ'.T)))))) (fun _ => True) (fun _ => 0) () trivial sublA (by rw [hnt]; exact subT) ?_
  rintro ⟨⟩ -
  simp only [List.cons_append, List.nil_append]
  repeat (first | refine stepA ?_ | intro _)
  refine callA ?_; refine ⟨_, _, hag, _, cutA, ?_⟩
  rintro v H' ⟨rfl, rfl⟩
  simp only [List.cons_append, List.nil_append]
  repeat (first | refine stepA ?_ | intro _)
  (first | refine retA ?_ | refine retB ?_)
  refine ⟨_, ⟨rfl, σ', _, hP1, ht', rfl, rfl⟩, ?_⟩
  have q1' := pT2 nt
  have q2' := pX2 nt
  have eX : tkX nt = tkX tv := by rw [hnt]; rfl
  rw [eX] at q2'
  have q2'' := q2'.trans pX.symm
  obtain ⟨T', hT'⟩ : ∃ T', T' = setG σ'.T pid nt := ⟨_, rfl⟩
  rw [← hT'] at q1' q2''
  have e3 : T'.map GE.kv = σ'.T.map GE.kv := by rw [hT']; exact setG_kv
  have pF : ((knB σ' :: tbB σ'.pr σ'.mb σ'.last :: kvB σ'.mb σ'.L σ'.c :: flB σ'.fr σ'.fm 0 :: rmB σ'.fm σ'.R σ'.rc :: (σ'.tm, mapB (T'.map GE.kv) σ'.tc) :: (memH σ'.m σ'.M ++ kZ σ'.L σ'.R T')) ++ [(b10, Blk.cells (RS.cells ⟨re, rn, rm, rss, false⟩) 31), (b6, Blk.cells (RS.cells ⟨re, rn, rm, rss, false⟩) 31)]).Perm
      (knB σ' :: (b10, .cells (RS.cells ⟨re, rn, rm, rss, false⟩) 31) :: (b6, .cells (RS.cells ⟨re, rn, rm, rss, false⟩) 31) :: tbB σ'.pr σ'.mb σ'.last :: kvB σ'.mb σ'.L σ'.c :: flB σ'.fr σ'.fm 0 :: rmB σ'.fm σ'.R σ'.rc :: (σ'.tm, mapB (σ'.T.map GE.kv) σ'.tc) :: (memH σ'.m σ'.M ++ (tkB t.b nt :: (prB σ'.L ++ (blkG rowK σ'.R ++ (ZT ++ tkXs σ'.T)))))) := by
    rw [e3]
    classical
    refine List.perm_iff_count.2 fun x => ?_
    have q1 := q1'.count_eq x
    have q2 := q2''.count_eq x
    simp only [List.count_append, List.count_cons, List.count_nil, Nat.add_zero, Nat.zero_add] at q1 q2 ⊢
    rw [q1, q2]
    ac_rfl
  subst hT' hnt
  exact Sub.ofPermR pF
end
end Go.Proofs.YtcpfmjlceoiofaaGreatDoor

/-
  The kernel: Step: fork, exit, wait; Proc, Pids.
-/
namespace Go.Proofs.YtcpfmjlceoiofaaGreatDoor
open Go.RowKit
attribute [local irreducible] W L QL PureOp thenQ blockQ retQ Spec IterOk YSpec roundQ scopeQ noGoQ
attribute [local irreducible] AS ASi IterOkC retD retE
set_option maxHeartbeats 12800000
set_option maxRecDepth 8000
theorem findP_app {A B : List PE} {k : Int} (h : ∀ y ∈ A, y.p.pid ≠ k) : findP (A ++ B) k = findP B k := by
  induction A with
  | nil => rfl
  | cons y A ih =>
    have := h y (by simp)
    rw [List.cons_append, findP, if_neg (fun e => this e.symm), ih (fun z hz => h z (by simp [hz]))]
/-- numbers that rise stand in order already -/
theorem inOrder_up {L : List PE} (h : (pidsP L).Pairwise (· < ·)) : inOrder L = L := by
  have e : ksS (L.map PE.kv) = pidsP L := by
    have e1 : (L.map PE.kv).map (·.k) = pidsP L := by simp [pidsP, PE.kv, Function.comp_def]
    rw [ksS, e1]
    exact sortI_eq (List.Perm.refl _) (h.imp fun h => Int.le_of_lt h)
  rw [inOrder, e]
  have key : ∀ (B A : List PE), (pidsP (A ++ B)).Pairwise (· < ·) → (pidsP B).filterMap (findP (A ++ B)) = B := by
    intro B
    induction B with
    | nil => intro A _; rfl
    | cons x B ih =>
      intro A hp
      have hx : ∀ y ∈ A, y.p.pid ≠ x.p.pid := by
        intro y hy he
        rw [pidsP, List.map_append, List.pairwise_append] at hp
        have := hp.2.2 y.p.pid (List.mem_map.2 ⟨y, hy, rfl⟩) x.p.pid (List.mem_map.2 ⟨x, by simp, rfl⟩)
        omega
      have h1 : findP (A ++ x :: B) x.p.pid = some x := by rw [findP_app hx, findP, if_pos rfl]
      have h2 := ih (A ++ [x]) (by rw [List.append_assoc]; exact hp)
      rw [List.append_assoc] at h2
      show (x.p.pid :: pidsP B).filterMap _ = _
      rw [List.filterMap_cons_some h1]
      exact congrArg _ h2
  exact key L [] h
abbrev cV (no a : Int) : CallV := ⟨no, 0, a, 0, 0, 0, []⟩
theorem cV_ok {no a : Int} (h1 : 1 ≤ no ∧ no ≤ 25) (h2 : Sh a) : RightP (cV no a) := ⟨h1, by show (0 : Int) ≤ 0 ∧ (0 : Int) ≤ 255; decide, h2, by show Sh 0; decide, by show Sh 0; decide, by show Sh 0; decide, by simp⟩
/-- a process's space -/
def spOf (σ : KS) (k : Int) : Option SpM := (findG σ.T k).map (·.v.sp)
theorem spOf_setR {σ : KS} {pid : Int} {t : GE TK} (ht : findG σ.T pid = some t) (rs : RS) (k : Int) : spOf (setR σ pid t rs) k = spOf σ k := by
  show (findG (setG σ.T pid { t.v with r := rs }) k).map (·.v.sp) = (findG σ.T k).map (·.v.sp)
  rw [findG_set ht]
  split
  · rename_i h; rw [h, ht]; rfl
  · rfl
theorem spOf_some {σ : KS} {k : Int} {s : SpM} (h : spOf σ k = some s) : ∃ t, findG σ.T k = some t ∧ t.v.sp = s := by
  unfold spOf at h
  cases hf : findG σ.T k with
  | none => rw [hf] at h; cases h
  | some t => rw [hf] at h; exact ⟨t, rfl, Option.some.inj h⟩
section
variable (σ : KS)
theorem step_fork (hw : WfK σ) (pid : Int) {p : PE} {s : SpM} (hp : findP σ.L pid = some p) (hrun : p.p.state = 1) (hs : spOf σ pid = some s) (hM : (forkM σ.M s.root).1 = 0) (hlen : σ.L.length < 16) (hlast : σ.last < 30000) :
    Spec Tryz.prog 11 [ptrB σ.k, .int .i64 pid, .agg (cV 1 0).cells.toArray] (kH σ) fun v H' => v = RS.val ⟨0, σ.last + 1, 0, [], false⟩ ∧
      ∃ σ' b, WfK σ' ∧ σ'.k = σ.k ∧ σ'.M = (forkM σ.M s.root).2.2 ∧ σ'.L = σ.L ++ [⟨b, σ.c, childP p pid σ.last⟩] ∧ σ'.last = σ.last + 1 ∧ (∀ k, spOf σ' k = if k = σ.last + 1 then some { s with root := (forkM σ.M s.root).2.1 } else spOf σ k) ∧ H' = kH σ' := by
  obtain ⟨t, ht, rfl⟩ := spOf_some hs
  have hlast1 := hw.L.last
  have hpid : 1 ≤ pid ∧ pid ≤ σ.last := by have := hw.L.rng p (findP_mem hp); rwa [findP_pid hp] at this
  have inst : FnOk Tryz.prog 50 := inferInstance
  have hTn : findG σ.T (σ.last + 1) = none := by
    have := hw.keys (σ.last + 1)
    rw [findP_last hw.L] at this
    cases h : findG σ.T (σ.last + 1) with
    | none => rfl
    | some y => rw [h] at this; simp at this
  refine (step_gen σ pid (cV 1 0) hp hrun ht (cV_ok (by decide) (by decide)) (by decide) (by decide) (by decide) _ inst ⟨0, σ.last + 1, 0, [], false⟩ rfl
    (fun σ' => ∃ b nb nt R' rc', nt.sp = { t.v.sp with root := (forkM σ.M t.v.sp.root).2.1 } ∧ WfK (forkK σ t.v.sp.root p pid b nb nt R' rc') ∧ σ' = forkK σ t.v.sp.root p pid b nb nt R' rc')
    (fun wb Ls h => h.1) (fun wb => (kfork_spec σ hw wb p.p.uid p.p.gid pid (cV 1 0) hp hrun ht hM hlen hlast).mono ?_) ?_).mono ?_
  · rintro v H' ⟨b, nb, nt, R', rc', rfl, h1, h2, rfl⟩
    exact ⟨rfl, _, ⟨b, nb, nt, R', rc', h1, h2, rfl⟩, rfl⟩
  · rintro _ ⟨b, nb, nt, R', rc', h1, h2, rfl⟩
    refine ⟨rfl, t, ?_, rfl⟩
    show findG (σ.T ++ [_]) pid = some t
    rw [findG_add, ht]
    rfl
  · rintro v H' ⟨rfl, σ', t', ⟨b, nb, nt, R', rc', h1, h2, rfl⟩, ht', -, rfl⟩
    refine ⟨rfl, _, b, h2.setR ht' _, rfl, rfl, rfl, rfl, ?_, rfl⟩
    intro k
    rw [spOf_setR ht']
    show (findG (σ.T ++ [_]) k).map (·.v.sp) = if k = σ.last + 1 then some { t.v.sp with root := (forkM σ.M t.v.sp.root).2.1 } else (findG σ.T k).map (·.v.sp)
    rw [findG_add]
    by_cases hk : k = σ.last + 1
    · rw [if_pos hk, if_pos hk, hk, hTn]
      simp [h1]
    · rw [if_neg hk, if_neg hk, Option.or_none]
theorem step_exit (hw : WfK σ) (pid status : Int) {p : PE} {s : SpM} (hp : findP σ.L pid = some p) (hrun : p.p.state = 1) (hs : spOf σ pid = some s) (hst : 0 ≤ status ∧ status ≤ 255) (h1 : pid ≠ 1) :
    Spec Tryz.prog 11 [ptrB σ.k, .int .i64 pid, .agg (cV 3 status).cells.toArray] (kH σ) fun v H' => v = rs0.val ∧
      ∃ σ', WfK σ' ∧ σ'.k = σ.k ∧ σ'.M = (sdropM σ.M s.root).2 ∧ σ'.L = mapP (setP σ.L pid (endedP p.p status)) (orphan pid) ∧ σ'.last = σ.last ∧ (∀ k, spOf σ' k = spOf σ k) ∧ H' = kH σ' := by
  obtain ⟨t, ht, rfl⟩ := spOf_some hs
  have inst : FnOk Tryz.prog 52 := inferInstance
  refine (step_gen σ pid (cV 3 status) hp hrun ht (cV_ok (by decide) ⟨by omega, by omega⟩) (by show (3 : Int) ≠ 12; decide) (by show (3 : Int) ≠ 16; decide) (by show (3 : Int) ≠ 19; decide) _ inst rs0 rfl
    (fun σ' => ∃ am R' rc', WfK (endK σ pid status p t am R' rc') ∧ σ' = endK σ pid status p t am R' rc')
    (fun wb Ls h => h.2.1) (fun wb => (kexit_spec σ hw wb t.ptr p.p.uid p.p.gid pid (cV 3 status) hp hrun ht hst h1).mono ?_) ?_).mono ?_
  · rintro v H' ⟨rfl, am, R', rc', h2, -, -, rfl⟩
    exact ⟨rfl, _, ⟨am, R', rc', h2, rfl⟩, rfl⟩
  · rintro _ ⟨am, R', rc', h2, rfl⟩
    refine ⟨rfl, { t with v := { t.v with am := am, ac := 0 } }, ?_, rfl⟩
    show findG (setG σ.T pid _) pid = _
    rw [findG_set ht, if_pos rfl]
  · rintro v H' ⟨rfl, σ', t', ⟨am, R', rc', h2, rfl⟩, ht', -, rfl⟩
    refine ⟨rfl, _, h2.setR ht' _, rfl, rfl, rfl, rfl, ?_, rfl⟩
    intro k
    rw [spOf_setR ht']
    show (findG (setG σ.T pid _) k).map (·.v.sp) = (findG σ.T k).map (·.v.sp)
    rw [findG_set ht]
    split
    · rename_i h; rw [h, ht]; rfl
    · rfl
theorem step_wait (hw : WfK σ) (pid : Int) {p z : PE} {s : SpM} (hp : findP σ.L pid = some p) (hrun : p.p.state = 1) (hs : spOf σ pid = some s) (hz : waitZ σ.L pid = some z) (hne : z.p.pid ≠ pid) :
    Spec Tryz.prog 11 [ptrB σ.k, .int .i64 pid, .agg (cV 4 0).cells.toArray] (kH σ) fun v H' => v = RS.val ⟨0, z.p.pid, z.p.status, [], false⟩ ∧
      ∃ σ', WfK σ' ∧ σ'.k = σ.k ∧ σ'.M = σ.M ∧ σ'.L = delP σ.L z.p.pid ∧ σ'.last = σ.last ∧ (∀ k, k ≠ z.p.pid → spOf σ' k = spOf σ k) ∧ H' = kH σ' := by
  obtain ⟨t, ht, rfl⟩ := spOf_some hs
  have inst : FnOk Tryz.prog 53 := inferInstance
  have hrE : runE σ.L pid = 0 := by simp only [runE, hp, Option.elim, hrun, if_true]
  refine (step_gen σ pid (cV 4 0) hp hrun ht (cV_ok (by decide) (by decide)) (by decide) (by decide) (by decide) _ inst ⟨0, z.p.pid, z.p.status, [], false⟩ rfl
    (fun σ' => σ' = reapK σ z.p.pid)
    (fun wb Ls h => h.2.2.1) (fun wb => (kwait_some σ hw wb t.ptr p.p.uid p.p.gid pid (cV 4 0) hrE hz).mono ?_) ?_).mono ?_
  · rintro v H' ⟨rfl, h2, rfl⟩
    exact ⟨rfl, _, rfl, rfl⟩
  · rintro _ rfl
    refine ⟨rfl, t, ?_, rfl⟩
    show findG (delG σ.T z.p.pid) pid = _
    rw [findG_del hw.T.nd, if_neg (fun e => hne e.symm), ht]
  · rintro v H' ⟨rfl, σ', t', rfl, ht', -, rfl⟩
    refine ⟨rfl, _, (hw.reap z.p.pid).setR ht' _, rfl, rfl, rfl, rfl, ?_, rfl⟩
    intro k hk
    rw [spOf_setR ht']
    show (findG (delG σ.T z.p.pid) k).map (·.v.sp) = (findG σ.T k).map (·.v.sp)
    rw [findG_del hw.T.nd, if_neg hk]
theorem ktask_spec (pid : Int) {t : GE TK} (ht : findG σ.T pid = some t) : Spec Tryz.prog 40 [ptrB σ.k, .int .i64 pid] [knB σ, tmB σ.tm σ.T σ.tc] fun v H' => v = .tuple #[t.ptr, .int .i64 0] ∧ H' = [knB σ, tmB σ.tm σ.T σ.tc] := by
  refine Spec_body Tryz.func40 rfl Tryz.ntmps40 rfl (fun w0 => ?_)
  repeat (first | refine stepA ?_ | intro _)
  (first | (apply L_P; (· exact rfl); (· exact rfl)) | (apply QL_P; (· exact rfl))); (· (apply P_lookupOk; (· exact evA); (· exact evA); (· exact pullA)))
  rw [getL_g, ht]
  simp only [Option.map_some, Option.getD_some, Option.isSome_some]
  repeat (first | refine stepA ?_ | intro _)
  (first | refine retA ?_ | refine retB ?_); exact ⟨_, ⟨rfl, rfl⟩, subA⟩
theorem kproc_spec (hw : WfK σ) (pid : Int) {p : PE} (hp : findP σ.L pid = some p) : Spec Tryz.prog 16 [ptrB σ.k, .int .i64 pid] (kH σ) fun v H' => v = .tuple #[.agg p.p.cells.toArray, .int .i64 0] ∧ H' = kH σ := by
  have hTs : (findG σ.T pid).isSome := by rw [← hw.keys, hp]; rfl
  obtain ⟨t, ht⟩ := Option.isSome_iff_exists.1 hTs
  have hg := (prget_spec σ.pr σ.mb σ.last σ.L σ.c pid).frame (blkG rowK σ.R ++ (blkG tkB σ.T ++ tkXs σ.T))
  simp only [hp, fndE, Option.elim, Option.map_some, Option.getD_some, List.cons_append, List.nil_append] at hg
  refine Spec_body Tryz.func16 rfl Tryz.ntmps16 rfl (fun w0 => ?_)
  repeat (first | refine stepA ?_ | intro _)
  rename_i b4
  refine callA ?_; refine ⟨_, _, ktask_spec σ pid ht, _, cutA, ?_⟩
  rintro v H' ⟨rfl, rfl⟩
  simp only [List.cons_append, List.nil_append]
  repeat (first | refine stepA ?_ | intro _)
  refine callT ?_; refine ⟨_, _, hg, _, cutT, ?_⟩
  rintro v H' ⟨H1, ⟨rfl, rfl⟩, rfl⟩
  simp only [List.cons_append, List.nil_append]
  repeat (first | refine stepA ?_ | intro _)
  (first | refine retA ?_ | refine retB ?_)
  exact ⟨_, ⟨rfl, rfl⟩, subT⟩
theorem kpids_spec (hw : WfK σ) (hup : (pidsP σ.L).Pairwise (· < ·)) : Spec Tryz.prog 12 [ptrB σ.k] (kH σ) fun v H' => ∃ a cap Hs, v = .slice a σ.L.length cap ∧ Own 3 1 a σ.L.length cap (ivs (pidsP σ.L)) Hs ∧ H' = kH σ ++ Hs := by
  have e1 : (σ.L.map PE.kv).map (·.k) = pidsP σ.L := by simp [pidsP, PE.kv, Function.comp_def]
  have e : ksS (σ.L.map PE.kv) = pidsP σ.L := by
    rw [ksS, e1]
    exact sortI_eq (List.Perm.refl _) (hup.imp fun h => Int.le_of_lt h)
  have hg := pids_spec σ.pr σ.mb σ.last hw.L.ks
  rw [e, List.length_map] at hg
  refine Spec_body Tryz.func12 rfl Tryz.ntmps12 rfl (fun w0 => ?_)
  repeat (first | refine stepA ?_ | intro _)
  refine callT ?_; refine ⟨_, _, hg, _, cutT, ?_⟩
  rintro v H' ⟨a, cap, Hs, rfl, how, rfl⟩
  simp only [List.cons_append, List.nil_append, List.append_assoc]
  repeat (first | refine stepA ?_ | intro _)
  (first | refine retA ?_ | refine retB ?_)
  refine ⟨_, ⟨a, cap, Hs, rfl, how, rfl⟩, ?_⟩
  exact Sub.ofPermR (R := []) (by rw [List.append_nil]; exact permA)
end
end Go.Proofs.YtcpfmjlceoiofaaGreatDoor
