/-
  Joined texts; each begins with its own sentence.
-/
import Derived.Test.YtcpfmjlceoiofaaGreatDoorL43
import Derived.Test.YtcpfmjlceoiofaaGreatDoorL40
import Derived.Test.YtcpfmjlceoiofaaGreatDoorL42
import Derived.Test.YtcpfmjlceoiofaaGreatDoorL44
import Derived.Test.YtcpfmjlceoiofaaGreatDoorL15
set_option linter.unusedSimpArgs false
set_option linter.unusedVariables false
set_option linter.unusedSectionVars false
/-
  The kernel: the two ends of a pipe are closed; a process ends that has a pipe.
-/
namespace Go.Proofs.YtcpfmjlceoiofaaGreatDoor
open Go.RowKit
attribute [local irreducible] W L QL PureOp thenQ blockQ retQ Spec IterOk YSpec roundQ scopeQ noGoQ
attribute [local irreducible] AS ASi IterOkC retD retE
set_option maxHeartbeats 12800000
set_option maxRecDepth 8000
/-- how often a slot was removed from, next -/
abbrev nextQ (q : Int) : Int := if q = 4095 then 0 else q + 1
/-- a pipe and its slot, behind k ends that are closed -/
def clH (pi : Nat) (q : Int) (Z : List Value) (pb rb : Nat) : Nat → Hp
  | 0 => [slK pi q (some ⟨pb, 0, none⟩) true Z, pqB pb rb 1 1]
  | 1 => [slK pi q (some ⟨pb, 0, none⟩) true Z, pqB pb rb 0 1]
  | _ + 2 => [slK pi (nextQ q) none false Z]
section
variable (σ : KS)
theorem closes_two {q : Int} (hq : 0 ≤ q ∧ q ≤ 4095) (Z : List Value) (pb rb : Nat) {a : Option Addr} {cap : Nat} {Hs : Hp} (how : oO a 2 cap (opC 1 (8 * q) ++ opC 2 (8 * q)) Hs) :
    Spec Tryz.prog 129 [ptrB σ.k, .slice a 2 cap] (knB σ :: slK σ.pi q (some ⟨pb, 0, none⟩) true Z :: pqB pb rb 1 1 :: Hs) fun _ H' => H' = [knB σ, slK σ.pi (nextQ q) none false Z] := by
  rcases how.inv with ⟨-, h0, -⟩ | ⟨g, ys, rfl, rfl, e1, e2, e3, e4⟩
  · exact absurd h0 (by decide)
  refine Spec_body Tryz.func129 rfl Tryz.ntmps129 rfl (fun w0 => ?_)
  repeat (first | refine stepA ?_ | intro _)
  refine W_loop (fun k : Nat => [(0, ptrB σ.k), (10, .slice (some ⟨g, 0, none⟩) 2 cap), (11, .int .i64 2), (12, .int .i64 (k : Int))]) (fun k => knB σ :: (g, .cells (opC 1 (8 * q) ++ opC 2 (8 * q) ++ ys) 208) :: clH σ.pi q Z pb rb k) (fun k => k ≤ 2) (fun k => 2 - k) 0 (by omega) sublA subA ?_
  rintro (_ | _ | _ | k) hk
  · show W _ _ _ _ _ (knB σ :: (g, .cells (opC 1 (8 * q) ++ opC 2 (8 * q) ++ ys) 208) :: [slK σ.pi q (some ⟨pb, 0, none⟩) true Z, pqB pb rb 1 1])
    repeat (first | refine stepA ?_ | intro _)
    rename_i b5
    refine W_any [knB σ, (b5, .cells [.int .i64 1, .int .i64 (8 * q)] 208)] [] rfl ?_
    refine AS_at 0 (by decide +kernel) ?_; refine takeA ?_
    refine AS_at 1 (by decide +kernel) ?_; refine takeA ?_
    refine AS_at 2 (by decide +kernel) ?_; refine takeA ?_
    refine AS_at 3 (by decide +kernel) ?_; refine takeA ?_
    refine AS_at 4 (by decide +kernel) ?_; refine takeA ?_
    refine AS_at 5 (by decide +kernel) ?_; refine takeA ?_
    refine AS_one 6 rfl (by decide +kernel) rfl ?_
    refine callA ?_; refine ⟨_, _, slget_spec σ.pi q Z hq (some ⟨pb, 0, none⟩), _, cutA, ?_⟩
    rintro v H' ⟨rfl, rfl⟩
    simp only [List.cons_append, List.nil_append]
    refine L_nil ?_; refine ⟨rfl, (by first | exact KeepsH.brk (by decide +kernel) | exact KeepsH.sub subA | exact KeepsH.sub subT), ?_⟩
    refine AS_at 7 (by decide +kernel) ?_; refine takeA ?_
    refine AS_at 8 (by decide +kernel) ?_; refine takeA ?_
    refine AS_at 9 (by decide +kernel) ?_; refine takeA ?_
    refine AS_at 10 (by decide +kernel) ?_; refine takeA ?_
    refine AS_at 11 (by decide +kernel) ?_; refine takeA ?_
    refine AS_done (by decide +kernel) ?_
    repeat (first | refine stepA ?_ | intro _)
    refine callA ?_; refine ⟨_, _, piclose_of pb rb 1 1 1 0 1 ⟨by omega, by omega⟩ (pichange_r pb rb 1 1 ⟨by omega, by omega⟩), _, cutA, ?_⟩
    rintro v H' ⟨rfl, rfl⟩
    simp only [List.cons_append, List.nil_append, Int.reduceEq, and_false, and_true, and_self, decide_false, decide_true]
    repeat (first | refine stepA ?_ | intro _)
    exact ⟨rfl, 1, by omega, by omega, sublA, subA⟩
  · show W _ _ _ _ _ (knB σ :: (g, .cells (opC 1 (8 * q) ++ opC 2 (8 * q) ++ ys) 208) :: [slK σ.pi q (some ⟨pb, 0, none⟩) true Z, pqB pb rb 0 1])
    repeat (first | refine stepA ?_ | intro _)
    rename_i b5
    refine W_any [knB σ, (b5, .cells [.int .i64 2, .int .i64 (8 * q)] 208)] [] rfl ?_
    refine AS_at 0 (by decide +kernel) ?_; refine takeA ?_
    refine AS_at 1 (by decide +kernel) ?_; refine takeA ?_
    refine AS_at 2 (by decide +kernel) ?_; refine takeA ?_
    refine AS_at 3 (by decide +kernel) ?_; refine takeA ?_
    refine AS_at 4 (by decide +kernel) ?_; refine takeA ?_
    refine AS_at 5 (by decide +kernel) ?_; refine takeA ?_
    refine AS_one 6 rfl (by decide +kernel) rfl ?_
    refine callA ?_; refine ⟨_, _, slget_spec σ.pi q Z hq (some ⟨pb, 0, none⟩), _, cutA, ?_⟩
    rintro v H' ⟨rfl, rfl⟩
    simp only [List.cons_append, List.nil_append]
    refine L_nil ?_; refine ⟨rfl, (by first | exact KeepsH.brk (by decide +kernel) | exact KeepsH.sub subA | exact KeepsH.sub subT), ?_⟩
    refine AS_at 7 (by decide +kernel) ?_; refine takeA ?_
    refine AS_at 8 (by decide +kernel) ?_; refine takeA ?_
    refine AS_at 9 (by decide +kernel) ?_; refine takeA ?_
    refine AS_at 10 (by decide +kernel) ?_; refine takeA ?_
    refine AS_at 11 (by decide +kernel) ?_; refine takeA ?_
    refine AS_done (by decide +kernel) ?_
    repeat (first | refine stepA ?_ | intro _)
    refine callA ?_; refine ⟨_, _, piclose_of pb rb 2 0 1 0 0 ⟨by omega, by omega⟩ (pichange_w pb rb 0 1 ⟨by omega, by omega⟩), _, cutA, ?_⟩
    rintro v H' ⟨rfl, rfl⟩
    simp only [List.cons_append, List.nil_append, Int.reduceEq, and_false, and_true, and_self, decide_false, decide_true]
    repeat (first | refine stepA ?_ | intro _)
    refine W_any [knB σ, (b5, .cells [.int .i64 2, .int .i64 (8 * q)] 208)] [] rfl ?_
    refine AS_at 0 (by decide +kernel) ?_; refine takeA ?_
    refine AS_at 1 (by decide +kernel) ?_; refine takeA ?_
    refine AS_at 2 (by decide +kernel) ?_; refine takeA ?_
    refine AS_at 3 (by decide +kernel) ?_; refine takeA ?_
    refine AS_at 4 (by decide +kernel) ?_; refine takeA ?_
    refine AS_at 5 (by decide +kernel) ?_; refine takeA ?_
    refine AS_one 6 rfl (by decide +kernel) rfl ?_
    refine callA ?_; refine ⟨_, _, slremove_spec σ.pi q Z hq (some ⟨pb, 0, none⟩), _, cutA, ?_⟩
    rintro v H' ⟨rfl, rfl⟩
    simp only [List.cons_append, List.nil_append]
    refine L_nil ?_; refine ⟨rfl, (by first | exact KeepsH.brk (by decide +kernel) | exact KeepsH.sub subA | exact KeepsH.sub subT), ?_⟩
    refine AS_done (by decide +kernel) ?_
    repeat (first | refine stepA ?_ | intro _)
    exact ⟨rfl, 2, by omega, by omega, sublA, subA⟩
  · show W _ _ _ _ _ (knB σ :: (g, .cells (opC 1 (8 * q) ++ opC 2 (8 * q) ++ ys) 208) :: [slK σ.pi (nextQ q) none false Z])
    repeat (first | refine stepA ?_ | intro _)
    (first | refine retA ?_ | refine retB ?_)
    exact ⟨_, rfl, subA⟩
  · omega
/-- a kernel in which a process has ended that had a pipe -/
abbrev end2K (σ : KS) (pid status : Int) (p : PE) (t : GE TK) (am : Nat) (q : Int) (Z : List Value) (E0 : Hp) : KS :=
  { σ with M := (sdropM σ.M t.v.sp.root).2, L := mapP (setP σ.L pid (endedP p.p status)) (orphan pid), R := delG σ.R pid, T := setG σ.T pid { t.v with am := am, ac := 0 }, fc := σ.fc - 1 - 1, E := slK σ.pi (nextQ q) none false Z :: E0 }
theorem kends_two (hw : WfJ σ) (pid status : Int) {p : PE} {t : GE TK} (hp : findP σ.L pid = some p) (hrun : p.p.state = 1) (ht : findG σ.T pid = some t) (hs : 0 ≤ status ∧ status ≤ 255) (h1 : pid ≠ 1) {q : Int} (hq : 0 ≤ q ∧ q ≤ 4095) {Z : List Value} {E0 : Hp} {pb rb f0 f1 : Nat} (hpi : PipeAt σ pid q Z E0 pb rb f0 f1) :
    Spec Tryz.prog 112 [ptrB σ.k, .int .i64 pid, .int .i64 status] (kH σ) fun _ H' => ∃ am, WfK (end2K σ pid status p t am q Z E0) ∧ H' = kH (end2K σ pid status p t am q Z E0) := by
  obtain ⟨⟨x0, hx0, hv0⟩, hrest, hE, hfc⟩ := hpi
  obtain ⟨tb, tw, tk, tv⟩ := t
  obtain ⟨ZT, pT, pT2, -⟩ := blkG_at tkB ht
  obtain ⟨ZX, pX, pX2, -⟩ := tkXs_at E0 ht
  have hwt := hw.Tw _ (findG_mem ht)
  simp only [tkX, List.cons_append] at pT pX hwt pT2 pX2
  have happ := tkXs_app σ.T (pipeE σ.pi q Z pb rb f0 f1) E0
  rw [← hE] at happ
  have pZ : (kZ σ.L σ.R σ.T σ.E).Perm (slK σ.pi q (some ⟨pb, 0, none⟩) true Z :: pqB pb rb 1 1 :: tkB tb tv :: amB tv.am tv.ac :: flK f0 1 (8 * q) 1 :: flK f1 2 (8 * q) 1 :: (blkG rowK σ.R ++ (tv.hs ++ (rgB rb :: (prB σ.L ++ (ZT ++ ZX)))))) := by
    classical
    refine List.perm_iff_count.2 fun x => ?_
    have q1 := pT.count_eq x
    have q2 := pX.count_eq x
    have q3 := happ.count_eq x
    simp only [List.count_append, List.count_cons, List.count_nil, Nat.add_zero, Nat.zero_add] at q1 q2 q3 ⊢
    rw [q3, q1, q2]
    ac_rfl
  have hpid : 1 ≤ pid ∧ pid ≤ σ.last := by have := hw.L.rng p (findP_mem hp); rwa [findP_pid hp] at this
  have hE2 : exitE σ.L pid status = 0 := by
    simp only [exitE, runE, hp, Option.elim, hrun, if_true, ne_eq, not_true_eq_false, if_false]
    rw [if_neg (by omega)]
  refine Spec_body Tryz.func112 rfl Tryz.ntmps112 rfl (fun w0 => ?_)
  repeat (first | refine stepA ?_ | intro _)
  (first | (apply L_P; (· exact rfl); (· exact rfl)) | (apply QL_P; (· exact rfl))); (· (apply P_lookup; (· exact evA); (· exact evA); (· exact pullA)))
  rw [getL_g, ht]
  refine L_tail (T := kZ σ.L σ.R σ.T σ.E) pZ ?_
  simp only [List.cons_append, List.nil_append, Option.map_some, Option.getD_some]
  repeat (first | refine stepA ?_ | intro _)
  refine callA ?_; refine ⟨_, _, ids_nil, _, cutA, ?_⟩
  rintro v H' ⟨rfl, rfl⟩
  simp only [List.cons_append, List.nil_append]
  repeat (first | refine stepA ?_ | intro _)
  refine W_loop (fun _ : Unit => [(0, ptrB σ.k), (1, .int .i64 pid), (2, .int .i64 status), (6, ptrB tb), (22, .int .i64 0), (23, .int .i64 0)]) (fun _ => knB σ :: tbB σ.pr σ.mb σ.last :: kvB σ.mb σ.L σ.c :: flB σ.fr σ.fm σ.fc :: rmB σ.fm σ.R σ.rc :: tmB σ.tm σ.T σ.tc :: slK σ.pi q (some ⟨pb, 0, none⟩) true Z :: pqB pb rb 1 1 :: tkB tb tv :: amB tv.am tv.ac :: flK f0 1 (8 * q) 1 :: flK f1 2 (8 * q) 1 :: (memH σ.m σ.M ++ (blkG rowK σ.R ++ (tv.hs ++ (rgB rb :: (prB σ.L ++ (ZT ++ ZX))))))) (fun _ => True) (fun _ => 0) () trivial sublA subT ?_
  rintro ⟨⟩ -
  simp only [List.cons_append, List.nil_append]
  repeat (first | refine stepA ?_ | intro _)
  refine callA ?_; refine ⟨_, _, leaves_none σ.k tb tv, _, cutA, ?_⟩
  rintro v H' ⟨am, rfl⟩
  simp only [List.cons_append, List.nil_append]
  have hFi := (fidrop_two σ.fr σ.fm σ.fc hw.R pid hpid.1 ⟨by omega, by omega⟩ hx0 f0 f1 hv0 1 (8 * q) 2 (8 * q)).frame (tv.hs ++ (rgB rb :: (prB σ.L ++ (ZT ++ ZX))))
  simp only [List.cons_append, List.nil_append, List.append_assoc] at hFi
  repeat (first | refine stepA ?_ | intro _)
  refine callT ?_; refine ⟨_, _, hFi, _, cutT, ?_⟩
  rintro v H' ⟨H1, ⟨a, cap, Hs, rfl, how, rfl⟩, rfl⟩
  simp only [List.cons_append, List.nil_append, List.append_assoc]
  repeat (first | refine stepA ?_ | intro _)
  obtain ⟨R', hR'⟩ : ∃ R', R' = delG σ.R pid := ⟨_, rfl⟩
  rw [← hR']
  obtain ⟨Wd, hWd⟩ : ∃ Wd, Wd = prB σ.L ++ (blkG rowK R' ++ (tv.hs ++ (rgB rb :: (ZT ++ ZX)))) := ⟨_, rfl⟩
  refine L_tail (T := blkG rowK R' ++ (Hs ++ (tv.hs ++ (rgB rb :: (prB σ.L ++ (ZT ++ ZX)))))) (T' := Hs ++ Wd) (by rw [hWd]; exact permA) ?_
  simp only [List.cons_append, List.nil_append]
  have hcl := (closes_two σ hq Z pb rb how).frame Wd
  simp only [List.cons_append, List.nil_append, List.append_assoc] at hcl
  refine callT ?_; refine ⟨_, _, hcl, _, cutT, ?_⟩
  rintro v H' ⟨H1, rfl, rfl⟩
  simp only [List.cons_append, List.nil_append, List.append_assoc]
  repeat (first | refine stepA ?_ | intro _)
  refine W_any [knB σ, tkB tb { tv with am := am, ac := 0 }] [] rfl ?_
  refine AS_at 0 (by decide +kernel) ?_; refine takeA ?_
  refine AS_at 1 (by decide +kernel) ?_; refine takeA ?_
  refine AS_at 2 (by decide +kernel) ?_; refine takeA ?_
  refine AS_at 3 (by decide +kernel) ?_; refine takeA ?_
  refine AS_at 4 (by decide +kernel) ?_; refine takeA ?_
  refine AS_at 5 (by decide +kernel) ?_; refine takeA ?_
  refine AS_at 6 (by decide +kernel) ?_; refine takeA ?_
  refine AS_at 7 (by decide +kernel) ?_; refine takeA ?_
  refine AS_one 8 rfl (by decide +kernel) rfl ?_
  refine callA ?_; refine ⟨_, _, sdrop_sp σ.m hw.M tv.sp tv.a tv.n tv.cap, _, cutA, ?_⟩
  rintro v H' ⟨rfl, rfl⟩
  simp only [List.cons_append, List.nil_append]
  refine L_nil ?_; refine ⟨rfl, (by first | exact KeepsH.brk (by decide +kernel) | exact KeepsH.sub subA | exact KeepsH.sub subT), ?_⟩
  refine AS_done (by decide +kernel) ?_
  repeat (first | refine stepA ?_ | intro _)
  rw [hWd]
  have hEx := (prexit_spec σ.pr σ.mb hw.L pid status).frame (blkG rowK R' ++ (tv.hs ++ (rgB rb :: (ZT ++ ZX))))
  simp only [List.cons_append, List.nil_append, List.append_assoc] at hEx
  refine callT ?_; refine ⟨_, _, hEx, _, cutT, ?_⟩
  rintro v H' ⟨H1, ⟨rfl, (⟨h0, -⟩ | ⟨-, p2, hp2, -, rfl⟩)⟩, rfl⟩
  · exact absurd hE2 h0
  obtain rfl : p = p2 := by rw [hp] at hp2; exact Option.some.inj hp2
  simp only [List.cons_append, List.nil_append, List.append_assoc]
  repeat (first | refine stepA ?_ | intro _)
  (first | refine retA ?_ | refine retB ?_)
  refine ⟨_, ⟨am, ?_, rfl⟩, ?_⟩
  · refine ⟨sdropM_wf hw.M _, (hw.L.set (p := endedP p.p status) (findP_pid hp)).map (orphan_pid pid), hw.R.del pid, ?_, hw.T.set pid _, ?_, ?_, ?_⟩
    · intro y hy
      have hno : findG (delG σ.R pid) pid = none := by rw [findG_del hw.R.nd, if_pos rfl]
      exact hrest y.k y (findG_none.1 hno y hy) (findG_of_mem hw.R.nd ((delG_sub σ.R pid).subset hy))
    · intro y hy
      rcases setG_mem hy with hy | hy
      · exact hw.Tw y hy
      · rw [hy]
        exact ⟨hwt.own, hwt.n, hwt.none⟩
    · intro k
      show (findP (mapP (setP σ.L pid (endedP p.p status)) (orphan pid)) k).isSome = (findG (setG σ.T pid _) k).isSome
      rw [findP_mapP (orphan_pid pid), Option.isSome_map, findP_setP_some (p := endedP p.p status) (findP_pid hp), findG_setG_some]
      exact hw.keys k
    · intro y hy
      exact hw.Rk y ((delG_sub σ.R pid).subset hy)
  · obtain ⟨L', hL'⟩ : ∃ L', L' = mapP (setP σ.L pid (endedP p.p status)) (orphan pid) := ⟨_, rfl⟩
    obtain ⟨T', hT'⟩ : ∃ T', T' = setG σ.T pid { tv with am := am, ac := 0 } := ⟨_, rfl⟩
    have q1' := pT2 { tv with am := am, ac := 0 }
    have q2' := pX2 { tv with am := am, ac := 0 }
    rw [← hT'] at q1' q2'
    have q3' := tkXs_app T' [slK σ.pi (nextQ q) none false Z] E0
    have e3 : T'.map GE.kv = σ.T.map GE.kv := by rw [hT']; exact setG_kv
    have pF : ((knB σ :: tbB σ.pr σ.mb σ.last :: kvB σ.mb L' σ.c :: flB σ.fr σ.fm (σ.fc - 1 - 1) :: rmB σ.fm R' σ.rc :: (σ.tm, mapB (T'.map GE.kv) σ.tc) :: (memH σ.m (sdropM σ.M tv.sp.root).2 ++ kZ L' R' T' (slK σ.pi (nextQ q) none false Z :: E0))) ++ [rgB rb]).Perm
        (memH σ.m (sdropM σ.M tv.sp.root).2 ++ (tkB tb { tv with am := am, ac := 0 } :: amB am 0 :: (σ.tm, mapB (σ.T.map GE.kv) σ.tc) :: flB σ.fr σ.fm (σ.fc - 1 - 1) :: rmB σ.fm R' σ.rc :: knB σ :: slK σ.pi (nextQ q) none false Z :: tbB σ.pr σ.mb σ.last :: kvB σ.mb L' σ.c :: (prB L' ++ (blkG rowK R' ++ (tv.hs ++ (rgB rb :: (ZT ++ ZX))))))) := by
      rw [e3]
      classical
      refine List.perm_iff_count.2 fun x => ?_
      have q1 := q1'.count_eq x
      have q2 := q2'.count_eq x
      have q3 := q3'.count_eq x
      simp only [List.count_append, List.count_cons, List.count_nil, Nat.add_zero, Nat.zero_add, List.cons_append, List.nil_append] at q1 q2 q3 ⊢
      rw [q3, q1, q2]
      ac_rfl
    subst hL' hT' hR'
    exact Sub.ofPermR pF
end
end Go.Proofs.YtcpfmjlceoiofaaGreatDoor

/-
  Processes: Kill of one that runs; nobody is taken out of an empty list.
-/
namespace Go.Proofs.YtcpfmjlceoiofaaGreatDoor
open Go.RowKit
attribute [local irreducible] W L QL PureOp thenQ blockQ retQ Spec IterOk YSpec roundQ scopeQ noGoQ
attribute [local irreducible] AS ASi IterOkC retD retE
set_option maxHeartbeats 6400000
set_option maxRecDepth 4000
section
variable (r mb : Nat) (last : Int) (L : List PE) (c : Nat)
abbrev killedP (p : PR) : PR := { p with killed := true }
theorem prkill_run (pid : Int) {x : PE} (hx : findP L pid = some x) (hrun : x.p.state = 1) (h1 : pid ≠ 1) : Spec Tryz.prog 115 [ptrB r, .int .i64 pid] (psH r mb last L c) fun v H' => v = .int .i64 0 ∧ H' = psH r mb last (setP L pid (killedP x.p)) c := by
  obtain ⟨T, hT, hset, -⟩ := prB_at hx
  have hpid := findP_pid hx
  obtain ⟨xb, xw, xp⟩ := x
  simp only at hrun hpid hT hset
  refine Spec_body Tryz.func115 rfl Tryz.ntmps115 rfl (fun w0 => ?_)
  repeat (first | refine stepA ?_ | intro _)
  refine callA ?_; refine ⟨_, _, prfind_spec r mb last L c pid, _, cutA, ?_⟩
  rintro v H' ⟨rfl, rfl⟩
  simp only [fnd, fndE, hx, Option.elim, List.cons_append, List.nil_append]
  repeat (first | refine stepA ?_ | intro _)
  refine L_tail hT ?_
  simp only [List.cons_append, List.nil_append]
  repeat (first | refine stepA ?_ | intro _)
  (first | refine retA ?_ | refine retB ?_)
  refine ⟨_, ⟨rfl, rfl⟩, ?_⟩
  show Sub (tbB r mb last :: (mb, mapB ((setP L pid _).map PE.kv) c) :: prB (setP L pid _)) _
  rw [setP_kv (by exact hpid)]
  refine Sub.back (hset (killedP xp)) ?_
  simp only [List.cons_append, List.nil_append]
  exact subT
end
theorem indexfn_nil (f : Value) : Spec Tryz.prog 211 [.slice none 0 0, f] [] fun v H' => v = .int .i64 (-1) ∧ H' = [] := by
  refine Spec_body Tryz.func211 rfl Tryz.ntmps211 rfl (fun w0 => ?_)
  repeat (first | refine stepA ?_ | intro _)
  refine W_loop (fun _ : Unit => [(7, .int .i64 0), (8, .int .i64 0)]) (fun _ => []) (fun _ => True) (fun _ => 0) () trivial sublA subA ?_
  rintro ⟨⟩ -
  repeat (first | refine stepA ?_ | intro _)
  (first | refine retA ?_ | refine retB ?_); exact ⟨_, ⟨rfl, rfl⟩, subA⟩
theorem deletefn_nil (f : Value) : Spec Tryz.prog 116 [.slice none 0 0, f] [] fun v H' => v = .slice none 0 0 ∧ H' = [] := by
  refine Spec_body Tryz.func116 rfl Tryz.ntmps116 rfl (fun w0 => ?_)
  repeat (first | refine stepA ?_ | intro _)
  refine callA ?_; refine ⟨_, _, indexfn_nil f, _, cutA, ?_⟩
  rintro v H' ⟨rfl, rfl⟩
  simp only [List.cons_append, List.nil_append]
  repeat (first | refine stepA ?_ | intro _)
  (first | refine retA ?_ | refine retB ?_); exact ⟨_, ⟨rfl, rfl⟩, subA⟩
end Go.Proofs.YtcpfmjlceoiofaaGreatDoor

/-
  The kernel: exit and kill of a process that has a pipe.
-/
namespace Go.Proofs.YtcpfmjlceoiofaaGreatDoor
open Go.RowKit
attribute [local irreducible] W L QL PureOp thenQ blockQ retQ Spec IterOk YSpec roundQ scopeQ noGoQ
attribute [local irreducible] AS ASi IterOkC retD retE
set_option maxHeartbeats 12800000
set_option maxRecDepth 8000
section
variable (σ : KS)
theorem kexit_two (hw : WfJ σ) (wb : Nat) (tp : Value) (uid gid : Int) (pid : Int) (x : CallV) {p : PE} {t : GE TK} (hp : findP σ.L pid = some p) (hrun : p.p.state = 1) (ht : findG σ.T pid = some t) (hs : 0 ≤ x.a ∧ x.a ≤ 255) (h1 : pid ≠ 1) {q : Int} (hq : 0 ≤ q ∧ q ≤ 4095) {Z : List Value} {E0 : Hp} {pb rb f0 f1 : Nat} (hpi : PipeAt σ pid q Z E0 pb rb f0 f1) :
    Spec Tryz.prog 52 [ptrB wb] (wkK wb σ.k tp pid uid gid x :: kH σ) fun v H' => v = .tuple #[rs0.val, .nilIface] ∧ ∃ am, WfK (end2K σ pid x.a p t am q Z E0) ∧ H' = wkK wb σ.k tp pid uid gid x :: kH (end2K σ pid x.a p t am q Z E0) := by
  refine Spec_body Tryz.func52 rfl Tryz.ntmps52 rfl (fun w0 => ?_)
  have h2 := hs.1
  have h3 := hs.2
  repeat (first | refine stepA ?_ | intro _)
  rename_i b2
  refine W_any [wkK wb σ.k tp pid uid gid x] [] rfl ?_
  refine AS_at 0 (by decide +kernel) ?_; refine takeA ?_
  refine AS_at 1 (by decide +kernel) ?_; refine takeA ?_
  refine AS_at 2 (by decide +kernel) ?_; refine takeA ?_
  refine AS_at 3 (by decide +kernel) ?_; refine takeA ?_
  refine AS_at 4 (by decide +kernel) ?_; refine takeA ?_
  refine AS_at 5 (by decide +kernel) ?_; refine takeA ?_
  refine AS_at 6 (by decide +kernel) ?_; refine takeA ?_
  refine AS_at 7 (by decide +kernel) ?_; refine takeA ?_
  refine AS_at 8 (by decide +kernel) ?_; refine takeA ?_
  refine AS_at 9 (by decide +kernel) ?_; refine takeA ?_
  refine AS_at 10 (by decide +kernel) ?_; refine takeA ?_
  refine AS_at 11 (by decide +kernel) ?_; refine takeA ?_
  refine AS_at 12 (by decide +kernel) ?_; refine takeA ?_
  refine AS_one 13 rfl (by decide +kernel) rfl ?_
  refine callT ?_; refine ⟨_, _, kends_two σ hw pid x.a hp hrun ht hs h1 hq hpi, _, cutT, ?_⟩
  rintro v H' ⟨am, hw2, rfl⟩
  simp only [List.cons_append, List.nil_append]
  refine L_nil ?_; refine ⟨rfl, (by first | exact KeepsH.brk (by decide +kernel) | exact KeepsH.sub subA | exact KeepsH.sub subT), ?_⟩
  refine AS_done (by decide +kernel) ?_
  repeat (first | refine stepA ?_ | intro _)
  refine callA ?_; refine ⟨_, _, none_nil, _, cutA, ?_⟩
  rintro v H' ⟨rfl, rfl⟩
  simp only [List.cons_append, List.nil_append]
  repeat (first | refine stepA ?_ | intro _)
  (first | refine retA ?_ | refine retB ?_)
  exact ⟨_, ⟨rfl, am, hw2, rfl⟩, subT⟩
/-- a kernel in which a process was killed -/
abbrev killK (σ : KS) (pid : Int) (p : PR) : KS := { σ with L := setP σ.L pid (killedP p) }
theorem WfJ.kill {σ : KS} (hw : WfJ σ) {pid : Int} {p : PE} (hp : findP σ.L pid = some p) : WfJ (killK σ pid p.p) := by
  refine ⟨hw.M, hw.L.set (p := killedP p.p) (findP_pid hp), hw.R, hw.T, hw.Tw, ?_, hw.Rk⟩
  intro k
  show (findP (setP σ.L pid (killedP p.p)) k).isSome = _
  rw [findP_setP_some (p := killedP p.p) (findP_pid hp)]
  exact hw.keys k
abbrev pxC (b : Nat) (p : PR) : Nat × Blk := (b, .cells p.cells 48)
theorem kkill_two (hw : WfJ σ) (wb : Nat) (tp : Value) (gid : Int) (me pid : Int) (x : CallV) (hx : x.a = pid) {p : PE} {t : GE TK} (hp : findP σ.L pid = some p) (hrun : p.p.state = 1) (ht : findG σ.T pid = some t) (h1 : pid ≠ 1) {q : Int} (hq : 0 ≤ q ∧ q ≤ 4095) {Z : List Value} {E0 : Hp} {pb rb f0 f1 : Nat} (hpi : PipeAt σ pid q Z E0 pb rb f0 f1) :
    Spec Tryz.prog 54 [ptrB wb] (wkK wb σ.k tp me 0 gid x :: kH σ) fun v H' => v = .tuple #[rs0.val, .nilIface] ∧ ∃ am, WfK (end2K (killK σ pid p.p) pid 137 { p with p := killedP p.p } t am q Z E0) ∧ H' = wkK wb σ.k tp me 0 gid x :: kH (end2K (killK σ pid p.p) pid 137 { p with p := killedP p.p } t am q Z E0) := by
  have hppid := findP_pid hp
  subst hppid
  have hp2 : findP (killK σ p.p.pid p.p).L p.p.pid = some { p with p := killedP p.p } := by
    show findP (setP σ.L p.p.pid (killedP p.p)) p.p.pid = _
    rw [findP_set (p := killedP p.p) hp rfl, if_pos rfl]
  refine Spec_body Tryz.func54 rfl Tryz.ntmps54 rfl (fun w0 => ?_)
  have hg := (prget_spec σ.pr σ.mb σ.last σ.L σ.c p.p.pid).frame (blkG rowK σ.R ++ (blkG tkB σ.T ++ tkXs σ.T σ.E))
  simp only [hp, fndE, Option.elim, Option.map_some, Option.getD_some, List.cons_append, List.nil_append] at hg
  rw [← hx] at hg
  have hk := (prkill_run σ.pr σ.mb σ.last σ.L σ.c p.p.pid hp hrun h1).frame (blkG rowK σ.R ++ (blkG tkB σ.T ++ tkXs σ.T σ.E))
  simp only [List.cons_append, List.nil_append] at hk
  have hpi2 : PipeAt (killK σ p.p.pid p.p) p.p.pid q Z E0 pb rb f0 f1 := ⟨hpi.row, hpi.rest, hpi.E, hpi.fc⟩
  repeat (first | refine stepA ?_ | intro _)
  rename_i b2
  refine W_any [wkK wb σ.k tp me 0 gid x, knB σ] [] rfl ?_
  refine AS_at 0 (by decide +kernel) ?_; refine takeA ?_
  refine AS_at 1 (by decide +kernel) ?_; refine takeA ?_
  refine AS_at 2 (by decide +kernel) ?_; refine takeA ?_
  refine AS_at 3 (by decide +kernel) ?_; refine takeA ?_
  refine AS_at 4 (by decide +kernel) ?_; refine takeA ?_
  refine AS_at 5 (by decide +kernel) ?_; refine takeA ?_
  refine AS_at 6 (by decide +kernel) ?_; refine takeA ?_
  refine AS_at 7 (by decide +kernel) ?_; refine takeA ?_
  refine AS_at 8 (by decide +kernel) ?_; refine takeA ?_
  refine AS_at 9 (by decide +kernel) ?_; refine takeA ?_
  refine AS_at 10 (by decide +kernel) ?_; refine takeA ?_
  refine AS_at 11 (by decide +kernel) ?_; refine takeA ?_
  refine AS_two 12 16 rfl (by decide +kernel) rfl rfl ?_ ?_
  · skip
    refine callT ?_; refine ⟨_, _, hg, _, cutT, ?_⟩
    rintro v H' ⟨H1, ⟨rfl, rfl⟩, rfl⟩
    simp only [List.cons_append, List.nil_append]
    refine L_nil ?_; refine ⟨rfl, (by first | exact KeepsH.brk (by decide +kernel) | exact KeepsH.sub subA | exact KeepsH.sub subT), ?_⟩
    refine AS_at 13 (by decide +kernel) ?_; refine takeA ?_
    refine AS_at 14 (by decide +kernel) ?_; refine takeA ?_
    refine AS_at 15 (by decide +kernel) ?_; refine takeA ?_
    refine AS_one 16 rfl (by decide +kernel) rfl ?_
    refine stepA ?_
    intro b4
    refine L_nil ?_; refine ⟨rfl, (by first | exact KeepsH.brk (by decide +kernel) | exact KeepsH.sub subA | exact KeepsH.sub subT), ?_⟩
    refine AS_one 17 rfl (by decide +kernel) rfl ?_
    refine stepA ?_
    refine L_nil ?_; refine ⟨rfl, (by first | exact KeepsH.brk (by decide +kernel) | exact KeepsH.sub subA | exact KeepsH.sub subT), ?_⟩
    refine AS_at 18 (by decide +kernel) ?_; refine takeA ?_
    refine AS_done (by decide +kernel) ?_
    repeat (first | refine stepA ?_ | intro _)
    refine W_any [wkK wb σ.k tp me 0 gid x, knB σ, (b4, .cells p.p.cells 48)] [] rfl ?_
    refine AS_at 0 (by decide +kernel) ?_; refine takeA ?_
    refine AS_at 1 (by decide +kernel) ?_; refine takeA ?_
    refine AS_at 2 (by decide +kernel) ?_; refine takeA ?_
    refine AS_at 3 (by decide +kernel) ?_; refine takeA ?_
    refine AS_at 4 (by decide +kernel) ?_; refine takeA ?_
    refine AS_at 5 (by decide +kernel) ?_; refine takeA ?_
    refine AS_at 6 (by decide +kernel) ?_; refine takeA ?_
    refine AS_at 7 (by decide +kernel) ?_; refine takeA ?_
    refine AS_at 8 (by decide +kernel) ?_; refine takeA ?_
    refine AS_one 9 rfl (by decide +kernel) rfl ?_
    refine callT ?_; refine ⟨_, _, hk, _, cutT, ?_⟩
    rintro v H' ⟨H1, ⟨rfl, rfl⟩, rfl⟩
    simp only [List.cons_append, List.nil_append]
    refine L_nil ?_; refine ⟨rfl, (by first | exact KeepsH.brk (by decide +kernel) | exact KeepsH.sub subA | exact KeepsH.sub subT), ?_⟩
    refine AS_done (by decide +kernel) ?_
    repeat (first | refine stepA ?_ | intro _)
    refine W_any [wkK wb σ.k tp me 0 gid x, knB σ] [15] rfl ?_
    refine AS_at 0 (by decide +kernel) ?_; refine takeA ?_
    refine AS_at 1 (by decide +kernel) ?_; refine takeA ?_
    refine AS_at 2 (by decide +kernel) ?_; refine takeA ?_
    refine AS_at 3 (by decide +kernel) ?_; refine takeA ?_
    refine AS_at 4 (by decide +kernel) ?_; refine takeA ?_
    refine AS_at 5 (by decide +kernel) ?_; refine takeA ?_
    refine AS_at 6 (by decide +kernel) ?_; refine takeA ?_
    refine AS_at 7 (by decide +kernel) ?_; refine takeA ?_
    refine AS_at 8 (by decide +kernel) ?_; refine takeA ?_
    refine AS_at 9 (by decide +kernel) ?_; refine takeA ?_
    refine AS_at 10 (by decide +kernel) ?_; refine takeA ?_
    refine AS_at 11 (by decide +kernel) ?_; refine takeA ?_
    refine AS_one 12 rfl (by decide +kernel) rfl ?_
    refine callA ?_; refine ⟨_, _, deletefn_nil _, _, cutA, ?_⟩
    rintro v H' ⟨rfl, rfl⟩
    simp only [List.cons_append, List.nil_append]
    refine L_nil ?_; refine ⟨rfl, (by first | exact KeepsH.brk (by decide +kernel) | exact KeepsH.sub subA | exact KeepsH.sub subT), ?_⟩
    refine AS_at 13 (by decide +kernel) ?_; refine takeA ?_
    refine AS_at 14 (by decide +kernel) ?_; refine takeA ?_
    refine AS_one 15 rfl (by decide +kernel) rfl ?_
    refine stepA ?_
    refine L_nil ?_; refine ⟨rfl, (by first | exact KeepsH.brk (by decide +kernel) | exact KeepsH.sub subA | exact KeepsH.sub subT), ?_⟩
    refine AS_done (by decide +kernel) ?_
    repeat (first | refine stepA ?_ | intro _)
    refine W_any [wkK wb σ.k tp me 0 gid x, knB σ, (b4, .cells p.p.cells 48)] [] rfl ?_
    refine AS_at 0 (by decide +kernel) ?_; refine takeA ?_
    refine AS_at 1 (by decide +kernel) ?_; refine takeA ?_
    refine AS_at 2 (by decide +kernel) ?_; refine takeA ?_
    refine AS_at 3 (by decide +kernel) ?_; refine takeA ?_
    refine AS_at 4 (by decide +kernel) ?_; refine takeA ?_
    refine AS_at 5 (by decide +kernel) ?_; refine takeA ?_
    refine AS_one 6 rfl (by decide +kernel) rfl ?_
    refine callT ?_; refine ⟨_, _, kends_two (killK σ p.p.pid p.p) (hw.kill hp) p.p.pid 137 hp2 hrun ht ⟨by omega, by omega⟩ h1 hq hpi2, _, cutT, ?_⟩
    rintro v H' ⟨am, hw2, rfl⟩
    simp only [List.cons_append, List.nil_append]
    refine L_nil ?_; refine ⟨rfl, (by first | exact KeepsH.brk (by decide +kernel) | exact KeepsH.sub subA | exact KeepsH.sub subT), ?_⟩
    refine AS_done (by decide +kernel) ?_
    repeat (first | refine stepA ?_ | intro _)
    refine callA ?_; refine ⟨_, _, none_nil, _, cutA, ?_⟩
    rintro v H' ⟨rfl, rfl⟩
    simp only [List.cons_append, List.nil_append]
    repeat (first | refine stepA ?_ | intro _)
    (first | refine retA ?_ | refine retB ?_)
    exact ⟨_, ⟨rfl, am, hw2, rfl⟩, subT⟩
  · skip
    refine stepA ?_
    intro b4
    refine L_nil ?_; refine ⟨rfl, (by first | exact KeepsH.brk (by decide +kernel) | exact KeepsH.sub subA | exact KeepsH.sub subT), ?_⟩
    refine AS_one 12 rfl (by decide +kernel) rfl ?_
    refine callT ?_; refine ⟨_, _, hg, _, cutT, ?_⟩
    rintro v H' ⟨H1, ⟨rfl, rfl⟩, rfl⟩
    simp only [List.cons_append, List.nil_append]
    refine L_nil ?_; refine ⟨rfl, (by first | exact KeepsH.brk (by decide +kernel) | exact KeepsH.sub subA | exact KeepsH.sub subT), ?_⟩
    refine AS_at 13 (by decide +kernel) ?_; refine takeA ?_
    refine AS_at 14 (by decide +kernel) ?_; refine takeA ?_
    refine AS_at 15 (by decide +kernel) ?_; refine takeA ?_
    refine AS_one 17 rfl (by decide +kernel) rfl ?_
    refine stepA ?_
    refine L_nil ?_; refine ⟨rfl, (by first | exact KeepsH.brk (by decide +kernel) | exact KeepsH.sub subA | exact KeepsH.sub subT), ?_⟩
    refine AS_at 18 (by decide +kernel) ?_; refine takeA ?_
    refine AS_done (by decide +kernel) ?_
    repeat (first | refine stepA ?_ | intro _)
    refine W_any [wkK wb σ.k tp me 0 gid x, knB σ, (b4, .cells p.p.cells 48)] [] rfl ?_
    refine AS_at 0 (by decide +kernel) ?_; refine takeA ?_
    refine AS_at 1 (by decide +kernel) ?_; refine takeA ?_
    refine AS_at 2 (by decide +kernel) ?_; refine takeA ?_
    refine AS_at 3 (by decide +kernel) ?_; refine takeA ?_
    refine AS_at 4 (by decide +kernel) ?_; refine takeA ?_
    refine AS_at 5 (by decide +kernel) ?_; refine takeA ?_
    refine AS_at 6 (by decide +kernel) ?_; refine takeA ?_
    refine AS_at 7 (by decide +kernel) ?_; refine takeA ?_
    refine AS_at 8 (by decide +kernel) ?_; refine takeA ?_
    refine AS_one 9 rfl (by decide +kernel) rfl ?_
    refine callT ?_; refine ⟨_, _, hk, _, cutT, ?_⟩
    rintro v H' ⟨H1, ⟨rfl, rfl⟩, rfl⟩
    simp only [List.cons_append, List.nil_append]
    refine L_nil ?_; refine ⟨rfl, (by first | exact KeepsH.brk (by decide +kernel) | exact KeepsH.sub subA | exact KeepsH.sub subT), ?_⟩
    refine AS_done (by decide +kernel) ?_
    repeat (first | refine stepA ?_ | intro _)
    refine W_any [wkK wb σ.k tp me 0 gid x, knB σ] [15] rfl ?_
    refine AS_at 0 (by decide +kernel) ?_; refine takeA ?_
    refine AS_at 1 (by decide +kernel) ?_; refine takeA ?_
    refine AS_at 2 (by decide +kernel) ?_; refine takeA ?_
    refine AS_at 3 (by decide +kernel) ?_; refine takeA ?_
    refine AS_at 4 (by decide +kernel) ?_; refine takeA ?_
    refine AS_at 5 (by decide +kernel) ?_; refine takeA ?_
    refine AS_at 6 (by decide +kernel) ?_; refine takeA ?_
    refine AS_at 7 (by decide +kernel) ?_; refine takeA ?_
    refine AS_at 8 (by decide +kernel) ?_; refine takeA ?_
    refine AS_at 9 (by decide +kernel) ?_; refine takeA ?_
    refine AS_at 10 (by decide +kernel) ?_; refine takeA ?_
    refine AS_at 11 (by decide +kernel) ?_; refine takeA ?_
    refine AS_one 12 rfl (by decide +kernel) rfl ?_
    refine callA ?_; refine ⟨_, _, deletefn_nil _, _, cutA, ?_⟩
    rintro v H' ⟨rfl, rfl⟩
    simp only [List.cons_append, List.nil_append]
    refine L_nil ?_; refine ⟨rfl, (by first | exact KeepsH.brk (by decide +kernel) | exact KeepsH.sub subA | exact KeepsH.sub subT), ?_⟩
    refine AS_at 13 (by decide +kernel) ?_; refine takeA ?_
    refine AS_at 14 (by decide +kernel) ?_; refine takeA ?_
    refine AS_one 15 rfl (by decide +kernel) rfl ?_
    refine stepA ?_
    refine L_nil ?_; refine ⟨rfl, (by first | exact KeepsH.brk (by decide +kernel) | exact KeepsH.sub subA | exact KeepsH.sub subT), ?_⟩
    refine AS_done (by decide +kernel) ?_
    repeat (first | refine stepA ?_ | intro _)
    refine W_any [wkK wb σ.k tp me 0 gid x, knB σ, (b4, .cells p.p.cells 48)] [] rfl ?_
    refine AS_at 0 (by decide +kernel) ?_; refine takeA ?_
    refine AS_at 1 (by decide +kernel) ?_; refine takeA ?_
    refine AS_at 2 (by decide +kernel) ?_; refine takeA ?_
    refine AS_at 3 (by decide +kernel) ?_; refine takeA ?_
    refine AS_at 4 (by decide +kernel) ?_; refine takeA ?_
    refine AS_at 5 (by decide +kernel) ?_; refine takeA ?_
    refine AS_one 6 rfl (by decide +kernel) rfl ?_
    refine callT ?_; refine ⟨_, _, kends_two (killK σ p.p.pid p.p) (hw.kill hp) p.p.pid 137 hp2 hrun ht ⟨by omega, by omega⟩ h1 hq hpi2, _, cutT, ?_⟩
    rintro v H' ⟨am, hw2, rfl⟩
    simp only [List.cons_append, List.nil_append]
    refine L_nil ?_; refine ⟨rfl, (by first | exact KeepsH.brk (by decide +kernel) | exact KeepsH.sub subA | exact KeepsH.sub subT), ?_⟩
    refine AS_done (by decide +kernel) ?_
    repeat (first | refine stepA ?_ | intro _)
    refine callA ?_; refine ⟨_, _, none_nil, _, cutA, ?_⟩
    rintro v H' ⟨rfl, rfl⟩
    simp only [List.cons_append, List.nil_append]
    repeat (first | refine stepA ?_ | intro _)
    (first | refine retA ?_ | refine retB ?_)
    exact ⟨_, ⟨rfl, am, hw2, rfl⟩, subT⟩
end
end Go.Proofs.YtcpfmjlceoiofaaGreatDoor

/-
  The kernel: Step: grow, pipe; exit and kill of a process that has a pipe.
-/
namespace Go.Proofs.YtcpfmjlceoiofaaGreatDoor
open Go.RowKit
attribute [local irreducible] W L QL PureOp thenQ blockQ retQ Spec IterOk YSpec roundQ scopeQ noGoQ
attribute [local irreducible] AS ASi IterOkC retD retE
set_option maxHeartbeats 12800000
set_option maxRecDepth 8000
theorem WfJ.setR {σ : KS} (hw : WfJ σ) {pid : Int} {t : GE TK} (ht : findG σ.T pid = some t) (rs : RS) : WfJ (setR σ pid t rs) := by
  refine ⟨hw.M, hw.L, hw.R, hw.T.set pid _, ?_, ?_, hw.Rk⟩
  · intro y hy
    rcases setG_mem hy with hy | hy
    · exact hw.Tw y hy
    · rw [hy]
      have := hw.Tw t (findG_mem ht)
      exact ⟨this.own, this.n, this.none⟩
  · intro k
    show (findP σ.L k).isSome = (findG (setG σ.T pid _) k).isSome
    rw [findG_setG_some]
    exact hw.keys k
section
variable (σ : KS)
theorem step_grow (hw : WfK σ) (pid n : Int) {p : PE} {root : Int} {text data heap : Nat} (hp : findP σ.L pid = some p) (hrun : p.p.state = 1) (hs : spOf σ pid = some ⟨root, text, data, heap, []⟩) (hsum : text + data + heap ≤ 128) (hn : Sh n) (hM : (growM σ.M root (text + data + heap) heap n).1 = 0) :
    Spec Tryz.prog 11 [ptrB σ.k, .int .i64 pid, .agg (cV 7 n).cells.toArray] (kH σ) fun v H' => v = RS.val ⟨0, 64 * ((text + data + heap : Nat) : Int), 0, [], false⟩ ∧
      ∃ σ', WfK σ' ∧ Keep σ σ' ∧ σ'.M = (growM σ.M root (text + data + heap) heap n).2 ∧ σ'.L = σ.L ∧ σ'.last = σ.last ∧ σ'.R = σ.R ∧ (∀ k, spOf σ' k = if k = pid then some ⟨root, text, data, (heap : Int) + n, []⟩ else spOf σ k) ∧ H' = kH σ' := by
  obtain ⟨t, ht, hsp⟩ := spOf_some hs
  have inst : FnOk Tryz.prog 56 := inferInstance
  refine (step_gen σ pid (cV 7 n) hp hrun ht (cV_ok (by decide) hn) (by show (7 : Int) ≠ 12; decide) (by show (7 : Int) ≠ 16; decide) (by show (7 : Int) ≠ 19; decide) _ inst ⟨0, 64 * ((text + data + heap : Nat) : Int), 0, [], false⟩ rfl
    (fun σ' => ∃ nt : TK, nt.sp = ⟨root, text, data, (heap : Int) + n, []⟩ ∧ WfK (growK σ pid (growM σ.M root (text + data + heap) heap n).2 nt) ∧ σ' = growK σ pid (growM σ.M root (text + data + heap) heap n).2 nt)
    (fun wb Ls h => h.2.2.2.2.1) (fun wb => (kgrow_spec σ hw wb p.p.uid p.p.gid pid (cV 7 n) ht hsp hsum hn hM).mono ?_) ?_).mono ?_
  · rintro v H' ⟨rfl, nt, h1, h2, rfl⟩
    exact ⟨rfl, _, ⟨nt, h1, h2, rfl⟩, rfl⟩
  · rintro _ ⟨nt, h1, h2, rfl⟩
    refine ⟨rfl, { t with v := nt }, ?_, rfl⟩
    show findG (setG σ.T pid nt) pid = _
    rw [findG_set ht, if_pos rfl]
  · rintro v H' ⟨rfl, σ', t', ⟨nt, h1, h2, rfl⟩, ht', -, rfl⟩
    refine ⟨rfl, _, h2.setR ht' _, ⟨rfl, rfl, rfl, rfl⟩, rfl, rfl, rfl, rfl, ?_, rfl⟩
    intro k
    rw [spOf_setR ht']
    show (findG (setG σ.T pid nt) k).map (·.v.sp) = if k = pid then _ else (findG σ.T k).map (·.v.sp)
    rw [findG_set ht]
    split
    · rw [← h1]; rfl
    · rfl
theorem step_pipe (hw : WfK σ) (pid : Int) {p : PE} {s : SpM} (hp : findP σ.L pid = some p) (hrun : p.p.state = 1) (hs : spOf σ pid = some s) {q : Int} (hq : 0 ≤ q ∧ q ≤ 4095) {Z : List Value} {E0 : Hp} (hE : σ.E = slK σ.pi q none false Z :: E0) (hfc : σ.fc = 0) (hrow : (findG σ.R pid).isSome = true) :
    Spec Tryz.prog 11 [ptrB σ.k, .int .i64 pid, .agg (cV 10 0).cells.toArray] (kH σ) fun v H' => v = RS.val ⟨0, 0, 1, [], false⟩ ∧
      ∃ σ' pb rb f0 f1, WfJ σ' ∧ PipeAt σ' pid q Z E0 pb rb f0 f1 ∧ σ'.k = σ.k ∧ σ'.pi = σ.pi ∧ σ'.M = σ.M ∧ σ'.L = σ.L ∧ σ'.last = σ.last ∧ (∀ k, spOf σ' k = spOf σ k) ∧ H' = kH σ' := by
  obtain ⟨t, ht, rfl⟩ := spOf_some hs
  have hpid : 1 ≤ pid ∧ pid ≤ σ.last := by have := hw.L.rng p (findP_mem hp); rwa [findP_pid hp] at this
  have inst : FnOk Tryz.prog 59 := inferInstance
  refine (step_gen σ pid (cV 10 0) hp hrun ht (cV_ok (by decide) (by decide)) (by decide) (by decide) (by decide) _ inst ⟨0, 0, 1, [], false⟩ rfl
    (fun σ' => ∃ R' pb rb f0 f1, WfJ (pipeK σ R' q Z E0 pb rb f0 f1) ∧ PipeAt (pipeK σ R' q Z E0 pb rb f0 f1) pid q Z E0 pb rb f0 f1 ∧ σ' = pipeK σ R' q Z E0 pb rb f0 f1)
    (fun wb Ls h => h.2.2.2.2.2) (fun wb => (kpipe_spec σ hw wb t.ptr p.p.uid p.p.gid pid (cV 10 0) hpid hq hE hfc hrow).mono ?_) ?_).mono ?_
  · rintro v H' ⟨rfl, R', pb, rb, f0, f1, h1, h2, rfl⟩
    exact ⟨rfl, _, ⟨R', pb, rb, f0, f1, h1, h2, rfl⟩, rfl⟩
  · rintro _ ⟨R', pb, rb, f0, f1, h1, h2, rfl⟩
    exact ⟨rfl, t, ht, rfl⟩
  · rintro v H' ⟨rfl, σ', t', ⟨R', pb, rb, f0, f1, h1, h2, rfl⟩, ht', -, rfl⟩
    exact ⟨rfl, _, pb, rb, f0, f1, h1.setR ht' _, ⟨h2.row, h2.rest, h2.E, h2.fc⟩, rfl, rfl, rfl, rfl, rfl, spOf_setR ht' _, rfl⟩
theorem step_exit2 (hw : WfJ σ) (pid status : Int) {p : PE} {s : SpM} (hp : findP σ.L pid = some p) (hrun : p.p.state = 1) (hs : spOf σ pid = some s) (hst : 0 ≤ status ∧ status ≤ 255) (h1 : pid ≠ 1) {q : Int} (hq : 0 ≤ q ∧ q ≤ 4095) {Z : List Value} {E0 : Hp} {pb rb f0 f1 : Nat} (hpi : PipeAt σ pid q Z E0 pb rb f0 f1) :
    Spec Tryz.prog 11 [ptrB σ.k, .int .i64 pid, .agg (cV 3 status).cells.toArray] (kH σ) fun v H' => v = rs0.val ∧
      ∃ σ', WfK σ' ∧ σ'.k = σ.k ∧ σ'.pi = σ.pi ∧ σ'.E = slK σ.pi (nextQ q) none false Z :: E0 ∧ σ'.fc = 0 ∧ σ'.M = (sdropM σ.M s.root).2 ∧ σ'.L = mapP (setP σ.L pid (endedP p.p status)) (orphan pid) ∧ σ'.last = σ.last ∧ (∀ k, spOf σ' k = spOf σ k) ∧ H' = kH σ' := by
  obtain ⟨t, ht, rfl⟩ := spOf_some hs
  have hfc : σ.fc - 1 - 1 = 0 := by have := hpi.fc; omega
  have inst : FnOk Tryz.prog 52 := inferInstance
  refine (step_gen σ pid (cV 3 status) hp hrun ht (cV_ok (by decide) ⟨by omega, by omega⟩) (by show (3 : Int) ≠ 12; decide) (by show (3 : Int) ≠ 16; decide) (by show (3 : Int) ≠ 19; decide) _ inst rs0 rfl
    (fun σ' => ∃ am, WfK (end2K σ pid status p t am q Z E0) ∧ σ' = end2K σ pid status p t am q Z E0)
    (fun wb Ls h => h.2.1) (fun wb => (kexit_two σ hw wb t.ptr p.p.uid p.p.gid pid (cV 3 status) hp hrun ht hst h1 hq hpi).mono ?_) ?_).mono ?_
  · rintro v H' ⟨rfl, am, h2, rfl⟩
    exact ⟨rfl, _, ⟨am, h2, rfl⟩, rfl⟩
  · rintro _ ⟨am, h2, rfl⟩
    refine ⟨rfl, { t with v := { t.v with am := am, ac := 0 } }, ?_, rfl⟩
    show findG (setG σ.T pid _) pid = _
    rw [findG_set ht, if_pos rfl]
  · rintro v H' ⟨rfl, σ', t', ⟨am, h2, rfl⟩, ht', -, rfl⟩
    refine ⟨rfl, _, h2.setR ht' _, rfl, rfl, rfl, hfc, rfl, rfl, rfl, ?_, rfl⟩
    intro k
    rw [spOf_setR ht']
    show (findG (setG σ.T pid _) k).map (·.v.sp) = (findG σ.T k).map (·.v.sp)
    rw [findG_set ht]
    split
    · rename_i h; rw [h, ht]; rfl
    · rfl
theorem step_kill2 (hw : WfJ σ) (me pid : Int) {pm p : PE} {sm s : SpM} (hpm : findP σ.L me = some pm) (hrunm : pm.p.state = 1) (hu : pm.p.uid = 0) (hsm : spOf σ me = some sm) (hne : me ≠ pid) (hsh : Sh pid) (hp : findP σ.L pid = some p) (hrun : p.p.state = 1) (hs : spOf σ pid = some s) (h1 : pid ≠ 1) {q : Int} (hq : 0 ≤ q ∧ q ≤ 4095) {Z : List Value} {E0 : Hp} {pb rb f0 f1 : Nat} (hpi : PipeAt σ pid q Z E0 pb rb f0 f1) :
    Spec Tryz.prog 11 [ptrB σ.k, .int .i64 me, .agg (cV 5 pid).cells.toArray] (kH σ) fun v H' => v = rs0.val ∧
      ∃ σ', WfK σ' ∧ σ'.k = σ.k ∧ σ'.pi = σ.pi ∧ σ'.E = slK σ.pi (nextQ q) none false Z :: E0 ∧ σ'.fc = 0 ∧ σ'.M = (sdropM σ.M s.root).2 ∧ σ'.L = mapP (setP (setP σ.L pid (killedP p.p)) pid (endedP (killedP p.p) 137)) (orphan pid) ∧ σ'.last = σ.last ∧ (∀ k, spOf σ' k = spOf σ k) ∧ H' = kH σ' := by
  obtain ⟨t, ht, rfl⟩ := spOf_some hs
  obtain ⟨tm, htm, rfl⟩ := spOf_some hsm
  have hfc : σ.fc - 1 - 1 = 0 := by have := hpi.fc; omega
  have inst : FnOk Tryz.prog 54 := inferInstance
  refine (step_gen σ me (cV 5 pid) hpm hrunm htm (cV_ok (by decide) hsh) (by show (5 : Int) ≠ 12; decide) (by show (5 : Int) ≠ 16; decide) (by show (5 : Int) ≠ 19; decide) _ inst rs0 rfl
    (fun σ' => ∃ am, WfK (end2K (killK σ pid p.p) pid 137 { p with p := killedP p.p } t am q Z E0) ∧ σ' = end2K (killK σ pid p.p) pid 137 { p with p := killedP p.p } t am q Z E0)
    (fun wb Ls h => h.2.2.2.1) (fun wb => ?_) ?_).mono ?_
  · rw [hu]
    refine (kkill_two σ hw wb tm.ptr pm.p.gid me pid (cV 5 pid) rfl hp hrun ht h1 hq hpi).mono ?_
    rintro v H' ⟨rfl, am, h2, rfl⟩
    exact ⟨rfl, _, ⟨am, h2, rfl⟩, rfl⟩
  · rintro _ ⟨am, h2, rfl⟩
    refine ⟨rfl, tm, ?_, rfl⟩
    show findG (setG σ.T pid _) me = _
    rw [findG_set ht, if_neg hne, htm]
  · rintro v H' ⟨rfl, σ', t', ⟨am, h2, rfl⟩, ht', -, rfl⟩
    refine ⟨rfl, _, h2.setR ht' _, rfl, rfl, rfl, hfc, rfl, rfl, rfl, ?_, rfl⟩
    intro k
    rw [spOf_setR ht']
    show (findG (setG σ.T pid _) k).map (·.v.sp) = (findG σ.T k).map (·.v.sp)
    rw [findG_set ht]
    split
    · rename_i h; rw [h, ht]; rfl
    · rfl
theorem kleft_spec (hM : WfM σ.M) : Spec Tryz.prog 10 [ptrB σ.k] (knB σ :: memH σ.m σ.M) fun v H' => v = .int .i64 (leftM σ.M : Int) ∧ H' = knB σ :: memH σ.m σ.M := by
  refine Spec_body Tryz.func10 rfl Tryz.ntmps10 rfl (fun w0 => ?_)
  repeat (first | refine stepA ?_ | intro _)
  refine callA ?_; refine ⟨_, _, left_spec σ.m hM, _, cutA, ?_⟩
  rintro v H' ⟨rfl, rfl⟩
  simp only [List.cons_append, List.nil_append]
  repeat (first | refine stepA ?_ | intro _)
  (first | refine retA ?_ | refine retB ?_); exact ⟨_, ⟨rfl, rfl⟩, subA⟩
end
end Go.Proofs.YtcpfmjlceoiofaaGreatDoor

/-
  The laws through the layers: Image, booted.
-/
namespace Go.Proofs.YtcpfmjlceoiofaaGreatDoor
open Go.RowKit
attribute [local irreducible] W L QL PureOp thenQ blockQ retQ Spec IterOk YSpec roundQ scopeQ noGoQ
attribute [local irreducible] AS ASi IterOkC retD retE
set_option maxHeartbeats 12800000
set_option maxRecDepth 8000
abbrev z64 : List UInt8 := List.replicate 64 0
theorem img4_spec (data : List UInt8) (hd : data.length = 64) : Spec Tryz.prog 39 [str [], str data] [] fun v H' => v = str (88 :: 0 :: 64 :: ([] ++ data)) ∧ H' = [] := by
  refine Spec_body Tryz.func39 rfl Tryz.ntmps39 rfl (fun w0 => ?_)
  repeat (first | refine stepA ?_ | intro _)
  (first | (apply L_P; (· exact rfl); (· exact rfl)) | (apply QL_P; (· exact rfl))); (· (apply P_slStr; (· exact evA); (· exact Bound.none); (· exact Bound.of (j := 0) rfl (by show min (0 : Int) 200 = 0; decide)); (· simp)))
  simp only [List.drop_zero, Nat.sub_zero, List.take_zero]
  repeat (first | refine stepA ?_ | intro _)
  (first | (apply L_P; (· exact rfl); (· exact rfl)) | (apply QL_P; (· exact rfl))); (· (apply P_slStr; (· exact evA); (· exact Bound.none); (· exact Bound.of (j := 64) rfl (by rw [hd]; rfl)); (· rw [hd]; decide)))
  rw [List.drop_zero, Nat.sub_zero, List.take_of_length_le (by omega)]
  rw [hd]
  repeat (first | refine stepA ?_ | intro _)
  (first | (apply L_P; (· exact rfl); (· exact rfl)) | (apply QL_P; (· exact rfl))); (· (apply P_bytesStr; (· exact evA); (· exact pullA); (· exact (show _ = bts [88, 0, 64] by rw [hd]; rfl)); (· exact rfl)))
  repeat (first | refine stepA ?_ | intro _)
  (first | refine retA ?_ | refine retB ?_); exact ⟨_, ⟨rfl, rfl⟩, subA⟩
theorem img_spec : Spec Tryz.prog 14 [] [] fun v H' => v = str (88 :: 0 :: 64 :: ([] ++ z64)) ∧ H' = [] := by
  refine Spec_body Tryz.func14 rfl Tryz.ntmps14 rfl (fun w0 => ?_)
  repeat (first | refine stepA ?_ | intro _)
  refine L_makeSl (n := 64) rfl (ev_of rfl rfl) (ev_of rfl rfl) ?_ ?_ ?_ (fun b => ?_)
  · decide
  · exact rfl
  · decide
  repeat (first | refine stepA ?_ | intro _)
  (first | (apply L_P; (· exact rfl); (· exact rfl)) | (apply QL_P; (· exact rfl))); (· (apply P_bytesStr; (· exact evA); (· exact pullA); (· exact (show _ = bts z64 by rfl)); (· exact rfl)))
  repeat (first | refine stepA ?_ | intro _)
  refine callA ?_; refine ⟨_, _, img4_spec z64 rfl, _, cutA, ?_⟩
  rintro v H' ⟨rfl, rfl⟩
  simp only [List.cons_append, List.nil_append]
  repeat (first | refine stepA ?_ | intro _)
  (first | refine retA ?_ | refine retB ?_); exact ⟨_, ⟨rfl, rfl⟩, subA⟩
/-! ### what is booted -/
def M0 : List Frm := (execM (newM 120) [] z64).2.2
def r0 : Int := (execM (newM 120) [] z64).2.1
theorem exec_e : (execM (newM 120) [] z64).1 = 0 := by decide +kernel
def M1 : List Frm := (forkM M0 r0).2.2
def r1 : Int := (forkM M0 r0).2.1
theorem fork1_e : (forkM M0 r0).1 = 0 := by decide +kernel
theorem fork2_e : (forkM M1 r1).1 = 0 := by decide +kernel
end Go.Proofs.YtcpfmjlceoiofaaGreatDoor

/-
  Memories that differ in the bytes of frames which nobody has: one round of fork, grow and drop loses no frame.
-/
namespace Go.Proofs.YtcpfmjlceoiofaaGreatDoor
open Go.RowKit
/-- what can be seen of a memory: how often each frame is had, and its bytes, if somebody has it -/
def usedM (M : List Frm) : List (Option (Nat × List UInt8)) := M.map fun f => if f.refs = 0 then none else some (f.refs, f.bytes)
def mixF (b : List UInt8) (f : Frm) : Frm := if f.refs = 0 then ⟨0, b⟩ else f
theorem left_used : ∀ (M : List Frm), leftM M = (usedM M).countP (·.isNone)
  | [] => rfl
  | f :: M => by
    have ih := left_used M
    simp only [leftM, usedM, List.map_cons, List.countP_cons] at ih ⊢
    rw [ih]
    by_cases h : f.refs = 0 <;> simp [h]
theorem left_same {M N : List Frm} (h : usedM M = usedM N) : leftM M = leftM N := by rw [left_used, left_used, h]
theorem zip_of : ∀ {M N : List Frm}, usedM M = usedM N → M = List.zipWith mixF (M.map (·.bytes)) N
  | [], [], _ => rfl
  | [], _ :: _, h => by simp [usedM] at h
  | _ :: _, [], h => by simp [usedM] at h
  | f :: M, n :: N, h => by
    simp only [usedM, List.map_cons, List.cons.injEq] at h
    obtain ⟨h1, h2⟩ := h
    have ih := zip_of (M := M) (N := N) h2
    rw [List.map_cons, List.zipWith_cons_cons, ← ih]
    congr 1
    obtain ⟨fr, fb⟩ := f
    obtain ⟨nr, nb⟩ := n
    simp only at h1
    unfold mixF
    simp only
    by_cases hf : fr = 0
    · rw [if_pos hf] at h1
      by_cases hn : nr = 0
      · rw [if_pos hn, hf]
      · rw [if_neg hn] at h1; cases h1
    · rw [if_neg hf] at h1
      by_cases hn : nr = 0
      · rw [if_pos hn] at h1; cases h1
      · rw [if_neg hn] at h1 ⊢
        simp only [Option.some.injEq, Prod.mk.injEq] at h1
        rw [h1.1, h1.2]
theorem tab_of {α : Type} [Inhabited α] (l : List α) : ∃ g : Nat → α, l = (List.range l.length).map g :=
  ⟨fun i => (l[i]?).getD default, by
    apply List.ext_getElem
    · simp
    · intro i h1 h2
      simp [h1]⟩
theorem M0_len : M0.length = 120 := by decide +kernel
def mixG (g : Nat → List UInt8) : List Frm := List.zipWith mixF ((List.range 120).map g) M0
theorem same_mem {M : List Frm} (h : usedM M = usedM M0) : ∃ g, M = mixG g := by
  have hl : M.length = 120 := by
    have := congrArg List.length h
    simp only [usedM, List.length_map] at this
    rw [this, M0_len]
  obtain ⟨g, hg⟩ := tab_of (M.map (·.bytes))
  rw [List.length_map, hl] at hg
  exact ⟨g, by rw [mixG, ← hg]; exact zip_of h⟩
/-- a round: a fork, pages that the child grows, its end -/
structure RoundOk (M : List Frm) (p : Nat) : Prop where
  fork : (forkM M r0).1 = 0
  root : (forkM M r0).2.1 = r1
  grow : (growM (forkM M r0).2.2 r1 1 0 (p : Int)).1 = 0
  same : usedM (sdropM (growM (forkM M r0).2.2 r1 1 0 (p : Int)).2 r1).2 = usedM M0
def roundB (M : List Frm) (p : Nat) : Bool :=
  let f := forkM M r0
  let w := growM f.2.2 r1 1 0 (p : Int)
  decide (f.1 = 0) && (decide (f.2.1 = r1) && (decide (w.1 = 0) && decide (usedM (sdropM w.2 r1).2 = usedM M0)))
theorem round_of {M : List Frm} {p : Nat} (h : roundB M p = true) : RoundOk M p := by
  simp only [roundB, Bool.and_eq_true, decide_eq_true_eq] at h
  exact ⟨h.1, h.2.1, h.2.2.1, h.2.2.2⟩
end Go.Proofs.YtcpfmjlceoiofaaGreatDoor

/-
  One round of fork, grow and drop: each number of pages.
-/
namespace Go.Proofs.YtcpfmjlceoiofaaGreatDoor
open Go.RowKit
set_option maxRecDepth 100000
theorem round0 (g : Nat → List UInt8) : roundB (mixG g) 0 = true := by kernel_rfl
theorem round1 (g : Nat → List UInt8) : roundB (mixG g) 1 = true := by kernel_rfl
theorem round2 (g : Nat → List UInt8) : roundB (mixG g) 2 = true := by kernel_rfl
theorem round3 (g : Nat → List UInt8) : roundB (mixG g) 3 = true := by kernel_rfl
theorem round4 (g : Nat → List UInt8) : roundB (mixG g) 4 = true := by kernel_rfl
theorem round5 (g : Nat → List UInt8) : roundB (mixG g) 5 = true := by kernel_rfl
theorem round6 (g : Nat → List UInt8) : roundB (mixG g) 6 = true := by kernel_rfl
theorem round7 (g : Nat → List UInt8) : roundB (mixG g) 7 = true := by kernel_rfl
theorem round_ok {M : List Frm} (h : usedM M = usedM M0) (p : Nat) (hp : p < 8) : RoundOk M p := by
  obtain ⟨g, rfl⟩ := same_mem h
  have : p = 0 ∨ p = 1 ∨ p = 2 ∨ p = 3 ∨ p = 4 ∨ p = 5 ∨ p = 6 ∨ p = 7 := by omega
  rcases this with rfl | rfl | rfl | rfl | rfl | rfl | rfl | rfl
  · exact round_of (round0 g)
  · exact round_of (round1 g)
  · exact round_of (round2 g)
  · exact round_of (round3 g)
  · exact round_of (round4 g)
  · exact round_of (round5 g)
  · exact round_of (round6 g)
  · exact round_of (round7 g)
end Go.Proofs.YtcpfmjlceoiofaaGreatDoor

/-
  The laws through the layers: booted, shown.
-/
namespace Go.Proofs.YtcpfmjlceoiofaaGreatDoor
open Go.RowKit
attribute [local irreducible] W L QL PureOp thenQ blockQ retQ Spec IterOk YSpec roundQ scopeQ noGoQ
attribute [local irreducible] AS ASi IterOkC retD retE
set_option maxHeartbeats 12800000
set_option maxRecDepth 8000
theorem M0_wf : WfM M0 := by
  refine ⟨?_, ?_⟩
  · show ∀ f ∈ M0, f.bytes.length = 64 ∧ f.refs ≤ 1000
    decide +kernel
  · decide +kernel
abbrev q0 : SpM := ⟨r0, spanN 0, spanN 64, 0, []⟩
theorem booted2_spec : Spec Tryz.prog 9 [] [] fun v H' => ∃ σ b, v = .tuple #[ptrB σ.k, .bool true] ∧ WfK σ ∧ σ.M = M0 ∧ σ.L = [⟨b, 0, newP⟩] ∧ σ.last = 1 ∧ spOf σ 1 = some q0 ∧ σ.E = [slK σ.pi 0 none false slZ] ∧ σ.fc = 0 ∧ H' = kH σ := by
  refine Spec_body Tryz.func9 rfl Tryz.ntmps9 rfl (fun w0 => ?_)
  repeat (first | refine stepA ?_ | intro _)
  refine callA ?_; refine ⟨_, _, img_spec, _, cutA, ?_⟩
  rintro v H' ⟨rfl, rfl⟩
  simp only [List.cons_append, List.nil_append]
  have hN := knew_spec 120 (by decide) 88 0 64 (by decide) [] z64 rfl rfl exec_e M0_wf
  repeat (first | refine stepA ?_ | intro _)
  refine callA ?_; refine ⟨_, _, hN, _, cutA, ?_⟩
  rintro v H' ⟨x, k, m, rfl, rfl⟩
  simp only [List.cons_append, List.nil_append]
  repeat (first | refine stepA ?_ | intro _)
  (first | refine retA ?_ | refine retB ?_)
  exact ⟨_, ⟨newK x k m M0 q0, x.pb, rfl, newK_wf x k m M0_wf q0 rfl, rfl, rfl, rfl, rfl, rfl, rfl, rfl⟩, subT⟩
theorem booted_spec : Spec Tryz.prog 9 [] [] fun v H' => ∃ σ b, v = .tuple #[ptrB σ.k, .bool true] ∧ WfK σ ∧ σ.M = M0 ∧ σ.L = [⟨b, 0, newP⟩] ∧ σ.last = 1 ∧ spOf σ 1 = some q0 ∧ H' = kH σ := by
  refine booted2_spec.mono ?_
  rintro v H' ⟨σ, b, h1, h2, h3, h4, h5, h6, -, -, h7⟩
  exact ⟨σ, b, h1, h2, h3, h4, h5, h6, h7⟩
theorem ints_same (g1 c1 g2 c2 : Nat) (xs : List Int) (ys : List Value) (hx : xs.length ≤ 1000) : Spec Tryz.prog 19 [.slice (some ⟨g1, 0, none⟩) xs.length c1, .slice (some ⟨g2, 0, none⟩) xs.length c2] [(g1, .cells (ivs xs ++ ys) 3), (g2, .cells (ivs xs) 3)] fun v H' => v = .bool true ∧ H' = [(g1, .cells (ivs xs ++ ys) 3), (g2, .cells (ivs xs) 3)] := by
  refine Spec_body Tryz.func19 rfl Tryz.ntmps19 rfl (fun w0 => ?_)
  repeat (first | refine stepA ?_ | intro _)
  refine W_loop (fun k : Nat => [(0, .slice (some ⟨g1, 0, none⟩) xs.length c1), (1, .slice (some ⟨g2, 0, none⟩) xs.length c2), (5, .int .i64 (k : Int))]) (fun _ => [(g1, .cells (ivs xs ++ ys) 3), (g2, .cells (ivs xs) 3)]) (fun k => k ≤ xs.length) (fun k => xs.length - k) 0 (by omega) sublA subA ?_
  intro k hk
  by_cases hlt : k < xs.length
  · obtain ⟨u, hu⟩ : ∃ u, xs[k]? = some u := ⟨xs[k], by simp⟩
    have hu1 : (ivs xs ++ ys)[k]? = some (.int .i64 u) := ivs_get hu
    have hu2 : (ivs xs)[k]? = some (.int .i64 u) := by have := ivs_get (ys := []) hu; rwa [List.append_nil] at this
    repeat (first | refine stepA ?_ | intro _)
    exact ⟨rfl, k + 1, hlt, by omega, sublA, subA⟩
  · obtain rfl : k = xs.length := by omega
    repeat (first | refine stepA ?_ | intro _)
    (first | refine retA ?_ | refine retB ?_); exact ⟨_, ⟨rfl, rfl⟩, subA⟩
theorem fitRS (x : RS) : FitK [.int .i64, .int .i64, .int .i64, .str, .bool] x.cells := by
  refine ⟨rfl, fun j k h => ?_⟩
  match j, h with
  | 0, h => cases h; exact ⟨_, rfl, _, rfl⟩
  | 1, h => cases h; exact ⟨_, rfl, _, rfl⟩
  | 2, h => cases h; exact ⟨_, rfl, _, rfl⟩
  | 3, h => cases h; exact ⟨_, rfl, _, rfl⟩
  | 4, h => cases h; exact ⟨_, rfl, _, rfl⟩
theorem shown_spec : Spec Tryz.prog 8 [] [] fun v H' => v = .bool true ∧ H' = [] := by
  refine Spec_body Tryz.func8 rfl Tryz.ntmps8 rfl (fun w0 => ?_)
  repeat (first | refine stepA ?_ | intro _)
  refine callT ?_; refine ⟨_, _, booted_spec, _, cutT, ?_⟩
  rintro v H' ⟨σ, b, rfl, hw, hM, hL, hlast, hs, rfl⟩
  simp only [List.cons_append, List.nil_append]
  have hp : findP σ.L 1 = some ⟨b, 0, newP⟩ := by rw [hL]; rfl
  have hS := step_fork σ hw 1 hp rfl hs (by rw [hM]; exact fork1_e) (by rw [hL]; show 1 < 16; decide) (by rw [hlast]; decide)
  repeat (first | refine stepA ?_ | intro _)
  refine callT ?_; refine ⟨_, _, hS, _, cutT, ?_⟩
  rintro v H' ⟨rfl, σ1, b1, hw1, hk1, hM1, hL1, hlast1, hsp1, -, rfl⟩
  simp only [List.cons_append, List.nil_append]
  rw [hlast]
  repeat (first | refine stepA ?_ | intro _)
  rename_i b3
  (first | (apply L_P; (· exact rfl); (· exact rfl)) | (apply QL_P; (· exact rfl)))
  · exact P_eqS (xs := RS.cells ⟨0, 1 + 1, 0, [], false⟩) (ys := RS.cells ⟨0, 2, 0, [], false⟩) (b := true) (ev_of rfl rfl) (ev_of rfl rfl) (fitRS _) (fitRS _) (by simp)
  have hpids : pidsP σ1.L = [1, 2] := by rw [hL1, hL, hlast]; rfl
  have hP := kpids_spec σ1 hw1 (by rw [hpids]; decide)
  rw [hpids, hk1.k] at hP
  repeat (first | refine stepA ?_ | intro _)
  refine callT ?_; refine ⟨_, _, hP, _, cutT, ?_⟩
  rintro v H' ⟨a, cap, Hs, rfl, how, rfl⟩
  have hl2 : σ1.L.length = 2 := by rw [hL1, hL]; rfl
  rw [hl2] at how ⊢
  simp only [List.cons_append, List.nil_append, List.append_assoc]
  rcases how.inv with ⟨-, h0, -⟩ | ⟨g, ys, rfl, rfl, -, -⟩
  · cases h0
  repeat (first | refine stepA ?_ | intro _)
  rename_i b4
  refine L_tail (T := prB σ1.L ++ (blkG rowK σ1.R ++ (blkG tkB σ1.T ++ (tkXs σ1.T σ1.E ++ [(g, Blk.cells (ivs [1, 2] ++ ys) 3)])))) (T' := (g, Blk.cells (ivs [1, 2] ++ ys) 3) :: (prB σ1.L ++ (blkG rowK σ1.R ++ (blkG tkB σ1.T ++ tkXs σ1.T σ1.E)))) permA ?_
  simp only [List.cons_append, List.nil_append]
  refine callA ?_; refine ⟨_, _, ints_same g cap b4 2 [1, 2] ys (by decide), _, cutA, ?_⟩
  rintro v H' ⟨rfl, rfl⟩
  simp only [List.cons_append, List.nil_append]
  repeat (first | refine stepA ?_ | intro _)
  (first | refine retA ?_ | refine retB ?_); exact ⟨_, ⟨rfl, rfl⟩, subA⟩
end Go.Proofs.YtcpfmjlceoiofaaGreatDoor
