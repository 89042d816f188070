/-
  Joined texts; each begins with its own sentence.
-/
import Derived.Test.YtcpfmjlceoiofaaGreatDoorM47
import Derived.Test.YtcpfmjlceoiofaaGreatDoorM48
set_option linter.unusedSimpArgs false
set_option linter.unusedVariables false
set_option linter.unusedSectionVars false
/-
  The kernel: Step: wait where no child is.
-/
namespace Go.Proofs.YtcpfmjlceoiofaaGreatDoor
open Go.RowKit
attribute [local irreducible] W L QL PureOp thenQ blockQ retQ Spec IterOk YSpec roundQ scopeQ noGoQ
attribute [local irreducible] AS ASi IterOkC retD retE
set_option maxHeartbeats 12800000
set_option maxRecDepth 8000
section
variable (gx : Nat × Nat × Nat) (σ : KS)
theorem step_waitnone (hw : WfK σ) (pid : Int) {p : PE} {s : SpM} (hp : findP σ.L pid = some p) (hrun : p.p.state = 1) (hs : spOf σ pid = some s) (hz : waitZ σ.L pid = none) (hc : wrongP (inOrder σ.L) pid = 62) :
    Spec Tryz.prog 11 [ptrB σ.k, .int .i64 pid, .agg (cV 4 0).cells.toArray] ((gvB gx) :: kH σ) fun v H' => v = RS.val ⟨62, 0, 0, [], false⟩ ∧
      ∃ σ', WfK σ' ∧ σ'.k = σ.k ∧ σ'.M = σ.M ∧ σ'.L = σ.L ∧ σ'.last = σ.last ∧ (∀ k, spOf σ' k = spOf σ k) ∧ H' = (gvB gx) :: kH σ' := by
  obtain ⟨t, ht, rfl⟩ := spOf_some hs
  have hr : RightP (cV 4 0) := cV_ok (by decide) (by decide)
  have hrE : runE σ.L pid = 0 := by simp only [runE, hp, Option.elim, hrun, if_true]
  have h12 : (cV 4 0).no ≠ 12 := by decide
  have h16 : (cV 4 0).no ≠ 16 := by decide
  have h19 : (cV 4 0).no ≠ 19 := by decide
  have inst : FnOk Tryz.prog 53 := inferInstance
  refine Spec_body Tryz.func11 rfl Tryz.ntmps11 rfl (fun w0 => ?_)
  have hg := (prget_spec σ.pr σ.mb σ.last σ.L σ.c pid).frame (blkG rowK σ.R ++ (blkG tkB σ.T ++ tkXs σ.T))
  simp only [hp, fndE, Option.elim, Option.map_some, Option.getD_some, List.cons_append, List.nil_append] at hg
  repeat (first | refine stepA ?_ | intro _)
  rename_i b5 b6
  refine callT ?_; refine ⟨_, _, hg, _, cutT, ?_⟩
  rintro v H' ⟨H1, ⟨rfl, rfl⟩, rfl⟩
  simp only [List.cons_append, List.nil_append]
  repeat (first | refine stepA ?_ | intro _)
  rename_i b7
  refine callA ?_; refine ⟨_, _, right_spec (cV 4 0), _, cutA, ?_⟩
  rintro v H' ⟨rfl, rfl⟩
  simp only [List.cons_append, List.nil_append]
  rw [decide_eq_true hr]
  repeat (first | refine stepA ?_ | intro _)
  refine callT ?_; refine ⟨_, _, worker_spec σ pid (cV 4 0) hp ht, _, cutT, ?_⟩
  rintro v H' ⟨wb, rfl, rfl⟩
  simp only [List.cons_append, List.nil_append]
  repeat (first | refine stepA ?_ | intro _)
  refine callA ?_; refine ⟨_, _, reads_none wb σ.k t.ptr pid p.p.uid p.p.gid (cV 4 0) h12 h16 h19, _, cutA, ?_⟩
  rintro v H' ⟨rfl, rfl⟩
  simp only [List.cons_append, List.nil_append]
  repeat (first | refine stepA ?_ | intro _)
  refine callA ?_; refine ⟨_, _, result_nil rs0, _, cutA, ?_⟩
  rintro v H' ⟨rfl, rfl⟩
  simp only [List.cons_append, List.nil_append]
  repeat (first | refine stepA ?_ | intro _)
  rename_i b10 b11
  (first | (apply L_P; (· exact rfl); (· exact rfl)) | (apply QL_P; (· exact rfl)))
  · exact P_eqS (xs := rs0.cells) (ys := rs0.cells) (b := true) (ev_of rfl rfl) (ev_of rfl rfl) fitR fitR (by simp)
  repeat (first | refine stepA ?_ | intro _)
  refine W_any [(b10, .cells rs0.cells 31), (b5, .cells (cV 4 0).cells 34)] [9] rfl ?_
  refine AS_at 0 (by decide +kernel) ?_; refine takeA ?_
  refine AS_at 2 (by decide +kernel) ?_; refine takeA ?_
  refine AS_at 3 (by decide +kernel) ?_; refine takeA ?_
  refine AS_one 1 rfl (by decide +kernel) rfl ?_
  refine callA ?_; refine ⟨_, _, deeds_spec wb, _, cutA, ?_⟩
  rintro v H' ⟨mb, Ls, dc, rfl, rfl, hLs⟩
  simp only [List.cons_append, List.nil_append]
  refine L_nil ?_; refine ⟨rfl, (by first | exact KeepsH.brk (by decide +kernel) | exact KeepsH.sub subA | exact KeepsH.sub subT), ?_⟩
  refine AS_one 4 rfl (by decide +kernel) rfl ?_
  (first | (apply L_P; (· exact rfl); (· exact rfl)) | (apply QL_P; (· exact rfl))); (· (apply P_lookup; (· exact evA); (· exact evA); (· exact pullA)))
  rw [show getL Ls (cV 4 0).no = some (deedV 53 wb) from hLs.2.2.1, Option.getD_some]
  refine L_nil ?_; refine ⟨rfl, (by first | exact KeepsH.brk (by decide +kernel) | exact KeepsH.sub subA | exact KeepsH.sub subT), ?_⟩
  refine AS_one 5 rfl (by decide +kernel) rfl ?_
  refine callBT (f := 53) (pre := [ptrB wb]) ?_
  refine ⟨_, _, kwait_none σ hw wb t.ptr p.p.uid p.p.gid pid (cV 4 0) hrE hz hc, _, cutT, ?_⟩
  rintro v H' ⟨e, rfl, rfl⟩
  simp only [List.cons_append, List.nil_append]
  refine L_nil ?_; refine ⟨rfl, (by first | exact KeepsH.brk (by decide +kernel) | exact KeepsH.sub subA | exact KeepsH.sub subT), ?_⟩
  refine AS_at 6 (by decide +kernel) ?_; refine takeA ?_
  refine AS_at 7 (by decide +kernel) ?_; refine takeA ?_
  refine AS_one 8 rfl (by decide +kernel) rfl ?_
  refine callA ?_; refine ⟨_, _, result_hit gx rs0 e 62 false, _, cutA, ?_⟩
  rintro v H' ⟨rfl, rfl⟩
  simp only [List.cons_append, List.nil_append]
  refine L_nil ?_; refine ⟨rfl, (by first | exact KeepsH.brk (by decide +kernel) | exact KeepsH.sub subA | exact KeepsH.sub subT), ?_⟩
  refine AS_one 9 rfl (by decide +kernel) rfl ?_
  refine stepA ?_
  refine L_nil ?_; refine ⟨rfl, (by first | exact KeepsH.brk (by decide +kernel) | exact KeepsH.sub subA | exact KeepsH.sub subT), ?_⟩
  refine AS_done (by decide +kernel) ?_
  have hag := again_none σ
  have ht' := ht
  obtain ⟨tb, tw, tk, tv⟩ := t
  obtain ⟨ZT, pT, pT2, -⟩ := blkG_at tkB ht'
  obtain ⟨ZX, pX, pX2, -⟩ := tkXs_at ht'
  simp only at pT pX pT2 pX2
  have pZ : (kZ σ.L σ.R σ.T).Perm (tkB tb tv :: (prB σ.L ++ (blkG rowK σ.R ++ (ZT ++ tkXs σ.T)))) := by
    classical
    refine List.perm_iff_count.2 fun x => ?_
    have q1 := pT.count_eq x
    simp only [List.count_append, List.count_cons] at q1 ⊢
    rw [q1]
    ac_rfl
  repeat (first | refine stepA ?_ | intro _)
  refine W_tail (T := kZ σ.L σ.R σ.T) pZ ?_
  simp only [List.cons_append, List.nil_append]
  refine W_any [wkK wb σ.k (ptrB tb) pid p.p.uid p.p.gid (cV 4 0), (b10, .cells (RS.cells ⟨62, 0, 0, [], false⟩) 31)] [7] rfl ?_
  refine AS_at 0 (by decide +kernel) ?_; refine takeA ?_
  refine AS_at 1 (by decide +kernel) ?_; refine takeA ?_
  refine AS_at 2 (by decide +kernel) ?_; refine takeA ?_
  refine AS_at 3 (by decide +kernel) ?_; refine takeA ?_
  refine AS_at 4 (by decide +kernel) ?_; refine takeA ?_
  refine AS_at 5 (by decide +kernel) ?_; refine takeA ?_
  refine AS_at 6 (by decide +kernel) ?_; refine takeA ?_
  refine AS_one 7 rfl (by decide +kernel) rfl ?_
  refine L_store (cs := RS.cells ⟨62, 0, 0, [], false⟩) (Ln := ({ tv with r := ⟨62, 0, 0, [], false⟩ } : TK).cells) evA evA rfl rfl (fun u hu => List.all_eq_true.1 (show List.all (RS.cells ⟨62, 0, 0, [], false⟩) (fun u => u.oneCell') = true from rfl) u hu) repA rfl (by simp) ?_
  refine L_nil ?_; refine ⟨rfl, (by first | exact KeepsH.brk (by decide +kernel) | exact KeepsH.sub subA | exact KeepsH.sub subT), ?_⟩
  refine AS_done (by decide +kernel) ?_
  repeat (first | refine stepA ?_ | intro _)
  obtain ⟨nt, hnt⟩ : ∃ nt : TK, nt = { tv with r := ⟨62, 0, 0, [], false⟩ } := ⟨_, rfl⟩
  refine W_loop (fun _ : Unit => [(0, ptrB σ.k), (6, ptrB b6), (10, ptrB b10)]) (fun _ => (gvB gx) :: (b10, .cells (RS.cells ⟨62, 0, 0, [], false⟩) 31) :: (b6, .cells rs0.cells 31) :: knB σ :: tbB σ.pr σ.mb σ.last :: kvB σ.mb σ.L σ.c :: flB σ.fr σ.fm 0 :: rmB σ.fm σ.R σ.rc :: tmB σ.tm σ.T σ.tc :: (memH σ.m σ.M ++ (tkB tb nt :: (prB σ.L ++ (blkG rowK σ.R ++ (ZT ++ tkXs σ.T)))))) (fun _ => True) (fun _ => 0) () trivial sublA (by rw [hnt]; exact subT) ?_
  rintro ⟨⟩ -
  simp only [List.cons_append, List.nil_append]
  repeat (first | refine stepA ?_ | intro _)
  refine callA ?_; refine ⟨_, _, hag, _, cutA, ?_⟩
  rintro v H' ⟨rfl, rfl⟩
  simp only [List.cons_append, List.nil_append]
  repeat (first | refine stepA ?_ | intro _)
  (first | refine retA ?_ | refine retB ?_)
  refine ⟨_, ⟨rfl, setR σ pid ⟨tb, tw, tk, tv⟩ ⟨62, 0, 0, [], false⟩, hw.setR ht' _, rfl, rfl, rfl, rfl, spOf_setR ht' _, rfl⟩, ?_⟩
  have q1' := pT2 nt
  have q2' := pX2 nt
  have eX : tkX nt = tkX tv := by rw [hnt]; rfl
  rw [eX] at q2'
  have q2'' := q2'.trans pX.symm
  obtain ⟨T', hT'⟩ : ∃ T', T' = setG σ.T pid nt := ⟨_, rfl⟩
  rw [← hT'] at q1' q2''
  have e3 : T'.map GE.kv = σ.T.map GE.kv := by rw [hT']; exact setG_kv
  have pF : (((gvB gx) :: knB σ :: tbB σ.pr σ.mb σ.last :: kvB σ.mb σ.L σ.c :: flB σ.fr σ.fm 0 :: rmB σ.fm σ.R σ.rc :: (σ.tm, mapB (T'.map GE.kv) σ.tc) :: (memH σ.m σ.M ++ kZ σ.L σ.R T')) ++ [(b10, Blk.cells (RS.cells ⟨62, 0, 0, [], false⟩) 31), (b6, Blk.cells (RS.cells ⟨62, 0, 0, [], false⟩) 31)]).Perm
      (knB σ :: (gvB gx) :: (b10, .cells (RS.cells ⟨62, 0, 0, [], false⟩) 31) :: (b6, .cells (RS.cells ⟨62, 0, 0, [], false⟩) 31) :: tbB σ.pr σ.mb σ.last :: kvB σ.mb σ.L σ.c :: flB σ.fr σ.fm 0 :: rmB σ.fm σ.R σ.rc :: (σ.tm, mapB (σ.T.map GE.kv) σ.tc) :: (memH σ.m σ.M ++ (tkB tb nt :: (prB σ.L ++ (blkG rowK σ.R ++ (ZT ++ tkXs σ.T)))))) := by
    rw [e3]
    classical
    refine List.perm_iff_count.2 fun x => ?_
    have q1 := q1'.count_eq x
    have q2 := q2''.count_eq x
    simp only [List.count_append, List.count_cons, List.count_nil, Nat.add_zero, Nat.zero_add] at q1 q2 ⊢
    rw [q1, q2]
    ac_rfl
  subst hT' hnt
  exact Sub.ofPermR pF
end
end Go.Proofs.YtcpfmjlceoiofaaGreatDoor

/-
  The laws through the layers: Image, booted.
-/
namespace Go.Proofs.YtcpfmjlceoiofaaGreatDoor
open Go.RowKit
attribute [local irreducible] W L QL PureOp thenQ blockQ retQ Spec IterOk YSpec roundQ scopeQ noGoQ
attribute [local irreducible] AS ASi IterOkC retD retE
set_option maxHeartbeats 12800000
set_option maxRecDepth 8000
abbrev z64 : List UInt8 := List.replicate 64 0
theorem img4_spec (data : List UInt8) (hd : data.length = 64) : Spec Tryz.prog 39 [str [], str data] [] fun v H' => v = str (88 :: 0 :: 64 :: ([] ++ data)) ∧ H' = [] := by
  refine Spec_body Tryz.func39 rfl Tryz.ntmps39 rfl (fun w0 => ?_)
  repeat (first | refine stepA ?_ | intro _)
  (first | (apply L_P; (· exact rfl); (· exact rfl)) | (apply QL_P; (· exact rfl))); (· (apply P_slStr; (· exact evA); (· exact Bound.none); (· exact Bound.of (j := 0) rfl (by show min (0 : Int) 200 = 0; decide)); (· simp)))
  simp only [List.drop_zero, Nat.sub_zero, List.take_zero]
  repeat (first | refine stepA ?_ | intro _)
  (first | (apply L_P; (· exact rfl); (· exact rfl)) | (apply QL_P; (· exact rfl))); (· (apply P_slStr; (· exact evA); (· exact Bound.none); (· exact Bound.of (j := 64) rfl (by rw [hd]; rfl)); (· rw [hd]; decide)))
  rw [List.drop_zero, Nat.sub_zero, List.take_of_length_le (by omega)]
  rw [hd]
  repeat (first | refine stepA ?_ | intro _)
  (first | (apply L_P; (· exact rfl); (· exact rfl)) | (apply QL_P; (· exact rfl))); (· (apply P_bytesStr; (· exact evA); (· exact pullA); (· exact (show _ = bts [88, 0, 64] by rw [hd]; rfl)); (· exact rfl)))
  repeat (first | refine stepA ?_ | intro _)
  (first | refine retA ?_ | refine retB ?_); exact ⟨_, ⟨rfl, rfl⟩, subA⟩
theorem img_spec : Spec Tryz.prog 14 [] [] fun v H' => v = str (88 :: 0 :: 64 :: ([] ++ z64)) ∧ H' = [] := by
  refine Spec_body Tryz.func14 rfl Tryz.ntmps14 rfl (fun w0 => ?_)
  repeat (first | refine stepA ?_ | intro _)
  refine L_makeSl (n := 64) rfl (ev_of rfl rfl) (ev_of rfl rfl) ?_ ?_ ?_ (fun b => ?_)
  · decide
  · exact rfl
  · decide
  repeat (first | refine stepA ?_ | intro _)
  (first | (apply L_P; (· exact rfl); (· exact rfl)) | (apply QL_P; (· exact rfl))); (· (apply P_bytesStr; (· exact evA); (· exact pullA); (· exact (show _ = bts z64 by rfl)); (· exact rfl)))
  repeat (first | refine stepA ?_ | intro _)
  refine callA ?_; refine ⟨_, _, img4_spec z64 rfl, _, cutA, ?_⟩
  rintro v H' ⟨rfl, rfl⟩
  simp only [List.cons_append, List.nil_append]
  repeat (first | refine stepA ?_ | intro _)
  (first | refine retA ?_ | refine retB ?_); exact ⟨_, ⟨rfl, rfl⟩, subA⟩
/-! ### what is booted -/
def M0 : List Frm := (execM (newM 120) [] z64).2.2
def r0 : Int := (execM (newM 120) [] z64).2.1
theorem exec_e : (execM (newM 120) [] z64).1 = 0 := by decide +kernel
def M1 : List Frm := (forkM M0 r0).2.2
def r1 : Int := (forkM M0 r0).2.1
theorem fork1_e : (forkM M0 r0).1 = 0 := by decide +kernel
theorem fork2_e : (forkM M1 r1).1 = 0 := by decide +kernel
end Go.Proofs.YtcpfmjlceoiofaaGreatDoor

/-
  The laws through the layers: booted, shown.
-/
namespace Go.Proofs.YtcpfmjlceoiofaaGreatDoor
open Go.RowKit
attribute [local irreducible] W L QL PureOp thenQ blockQ retQ Spec IterOk YSpec roundQ scopeQ noGoQ
attribute [local irreducible] AS ASi IterOkC retD retE
set_option maxHeartbeats 12800000
set_option maxRecDepth 8000
theorem M0_wf : WfM M0 := by
  refine ⟨?_, ?_⟩
  · show ∀ f ∈ M0, f.bytes.length = 64 ∧ f.refs ≤ 1000
    decide +kernel
  · decide +kernel
abbrev q0 : SpM := ⟨r0, spanN 0, spanN 64, 0, []⟩
theorem booted_spec : Spec Tryz.prog 9 [] [] fun v H' => ∃ σ b, v = .tuple #[ptrB σ.k, .bool true] ∧ WfK σ ∧ σ.M = M0 ∧ σ.L = [⟨b, 0, newP⟩] ∧ σ.last = 1 ∧ spOf σ 1 = some q0 ∧ H' = kH σ := by
  refine Spec_body Tryz.func9 rfl Tryz.ntmps9 rfl (fun w0 => ?_)
  repeat (first | refine stepA ?_ | intro _)
  refine callA ?_; refine ⟨_, _, img_spec, _, cutA, ?_⟩
  rintro v H' ⟨rfl, rfl⟩
  simp only [List.cons_append, List.nil_append]
  have hN := knew_spec 120 (by decide) 88 0 64 (by decide) [] z64 rfl rfl exec_e M0_wf
  repeat (first | refine stepA ?_ | intro _)
  refine callA ?_; refine ⟨_, _, hN, _, cutA, ?_⟩
  rintro v H' ⟨x, k, m, rfl, rfl⟩
  simp only [List.cons_append, List.nil_append]
  repeat (first | refine stepA ?_ | intro _)
  (first | refine retA ?_ | refine retB ?_)
  exact ⟨_, ⟨newK x k m M0 q0, x.pb, rfl, newK_wf x k m M0_wf q0 rfl, rfl, rfl, rfl, rfl, rfl⟩, subT⟩
theorem ints_same (g1 c1 g2 c2 : Nat) (xs : List Int) (ys : List Value) (hx : xs.length ≤ 1000) : Spec Tryz.prog 19 [.slice (some ⟨g1, 0, none⟩) xs.length c1, .slice (some ⟨g2, 0, none⟩) xs.length c2] [(g1, .cells (ivs xs ++ ys) 3), (g2, .cells (ivs xs) 3)] fun v H' => v = .bool true ∧ H' = [(g1, .cells (ivs xs ++ ys) 3), (g2, .cells (ivs xs) 3)] := by
  refine Spec_body Tryz.func19 rfl Tryz.ntmps19 rfl (fun w0 => ?_)
  repeat (first | refine stepA ?_ | intro _)
  refine W_loop (fun k : Nat => [(0, .slice (some ⟨g1, 0, none⟩) xs.length c1), (1, .slice (some ⟨g2, 0, none⟩) xs.length c2), (5, .int .i64 (k : Int))]) (fun _ => [(g1, .cells (ivs xs ++ ys) 3), (g2, .cells (ivs xs) 3)]) (fun k => k ≤ xs.length) (fun k => xs.length - k) 0 (by omega) sublA subA ?_
  intro k hk
  by_cases hlt : k < xs.length
  · obtain ⟨u, hu⟩ : ∃ u, xs[k]? = some u := ⟨xs[k], by simp⟩
    have hu1 : (ivs xs ++ ys)[k]? = some (.int .i64 u) := ivs_get hu
    have hu2 : (ivs xs)[k]? = some (.int .i64 u) := by have := ivs_get (ys := []) hu; rwa [List.append_nil] at this
    repeat (first | refine stepA ?_ | intro _)
    exact ⟨rfl, k + 1, hlt, by omega, sublA, subA⟩
  · obtain rfl : k = xs.length := by omega
    repeat (first | refine stepA ?_ | intro _)
    (first | refine retA ?_ | refine retB ?_); exact ⟨_, ⟨rfl, rfl⟩, subA⟩
theorem fitRS (x : RS) : FitK [.int .i64, .int .i64, .int .i64, .str, .bool] x.cells := by
  refine ⟨rfl, fun j k h => ?_⟩
  match j, h with
  | 0, h => cases h; exact ⟨_, rfl, _, rfl⟩
  | 1, h => cases h; exact ⟨_, rfl, _, rfl⟩
  | 2, h => cases h; exact ⟨_, rfl, _, rfl⟩
  | 3, h => cases h; exact ⟨_, rfl, _, rfl⟩
  | 4, h => cases h; exact ⟨_, rfl, _, rfl⟩
theorem shown_spec : Spec Tryz.prog 8 [] [] fun v H' => v = .bool true ∧ H' = [] := by
  refine Spec_body Tryz.func8 rfl Tryz.ntmps8 rfl (fun w0 => ?_)
  repeat (first | refine stepA ?_ | intro _)
  refine callT ?_; refine ⟨_, _, booted_spec, _, cutT, ?_⟩
  rintro v H' ⟨σ, b, rfl, hw, hM, hL, hlast, hs, rfl⟩
  simp only [List.cons_append, List.nil_append]
  have hp : findP σ.L 1 = some ⟨b, 0, newP⟩ := by rw [hL]; rfl
  have hS := step_fork σ hw 1 hp rfl hs (by rw [hM]; exact fork1_e) (by rw [hL]; show 1 < 16; decide) (by rw [hlast]; decide)
  repeat (first | refine stepA ?_ | intro _)
  refine callT ?_; refine ⟨_, _, hS, _, cutT, ?_⟩
  rintro v H' ⟨rfl, σ1, b1, hw1, hk1, hM1, hL1, hlast1, hsp1, rfl⟩
  simp only [List.cons_append, List.nil_append]
  rw [hlast]
  repeat (first | refine stepA ?_ | intro _)
  rename_i b3
  (first | (apply L_P; (· exact rfl); (· exact rfl)) | (apply QL_P; (· exact rfl)))
  · exact P_eqS (xs := RS.cells ⟨0, 1 + 1, 0, [], false⟩) (ys := RS.cells ⟨0, 2, 0, [], false⟩) (b := true) (ev_of rfl rfl) (ev_of rfl rfl) (fitRS _) (fitRS _) (by simp)
  have hpids : pidsP σ1.L = [1, 2] := by rw [hL1, hL, hlast]; rfl
  have hP := kpids_spec σ1 hw1 (by rw [hpids]; decide)
  rw [hpids, hk1] at hP
  repeat (first | refine stepA ?_ | intro _)
  refine callT ?_; refine ⟨_, _, hP, _, cutT, ?_⟩
  rintro v H' ⟨a, cap, Hs, rfl, how, rfl⟩
  have hl2 : σ1.L.length = 2 := by rw [hL1, hL]; rfl
  rw [hl2] at how ⊢
  simp only [List.cons_append, List.nil_append, List.append_assoc]
  rcases how.inv with ⟨-, h0, -⟩ | ⟨g, ys, rfl, rfl, -, -⟩
  · cases h0
  repeat (first | refine stepA ?_ | intro _)
  rename_i b4
  refine L_tail (T := prB σ1.L ++ (blkG rowK σ1.R ++ (blkG tkB σ1.T ++ (tkXs σ1.T ++ [(g, Blk.cells (ivs [1, 2] ++ ys) 3)])))) (T' := (g, Blk.cells (ivs [1, 2] ++ ys) 3) :: (prB σ1.L ++ (blkG rowK σ1.R ++ (blkG tkB σ1.T ++ tkXs σ1.T)))) permA ?_
  simp only [List.cons_append, List.nil_append]
  refine callA ?_; refine ⟨_, _, ints_same g cap b4 2 [1, 2] ys (by decide), _, cutA, ?_⟩
  rintro v H' ⟨rfl, rfl⟩
  simp only [List.cons_append, List.nil_append]
  repeat (first | refine stepA ?_ | intro _)
  (first | refine retA ?_ | refine retB ?_); exact ⟨_, ⟨rfl, rfl⟩, subA⟩
end Go.Proofs.YtcpfmjlceoiofaaGreatDoor

/-
  The laws through the layers: whose parent ends (plain).
-/
namespace Go.Proofs.YtcpfmjlceoiofaaGreatDoor
open Go.RowKit
attribute [local irreducible] W L QL PureOp thenQ blockQ retQ Spec IterOk YSpec roundQ scopeQ noGoQ
attribute [local irreducible] AS ASi IterOkC retD retE
set_option maxHeartbeats 12800000
set_option maxRecDepth 8000
theorem and255 (a : Int) : 0 ≤ bits .and .i64 a 255 ∧ bits .and .i64 a 255 ≤ 255 := by
  have h : (BitVec.ofInt 64 a &&& BitVec.ofInt 64 255).toNat ≤ 255 := by rw [BitVec.toNat_and]; exact Nat.and_le_right
  have e : bits .and .i64 a 255 = IntKind.i64.wrap ((BitVec.ofInt 64 a &&& BitVec.ofInt 64 255).toNat : Int) := rfl
  rw [e, wrap_i64 (by omega)]
  omega
abbrev p2 : PR := ⟨2, 1, 1, 0, 0, [], 0, false⟩
abbrev p3 : PR := ⟨3, 2, 1, 0, 0, [], 0, false⟩
abbrev L1 (b : Nat) : List PE := [⟨b, 0, newP⟩]
abbrev L3 (b b1 w1 b2 w2 : Nat) (x y : PR) : List PE := [⟨b, 0, newP⟩, ⟨b1, w1, x⟩, ⟨b2, w2, y⟩]
abbrev e2 (s : Int) : PR := ⟨2, 1, 3, 0, 0, [], s, false⟩
abbrev e3 (s : Int) : PR := ⟨3, 1, 3, 0, 0, [], s, false⟩
theorem end23 (b b1 w1 b2 w2 : Nat) (s : Int) : mapP (setP (L3 b b1 w1 b2 w2 p2 p3) 2 (endedP p2 s)) (orphan 2) = L3 b b1 w1 b2 w2 (e2 s) ⟨3, 1, 1, 0, 0, [], 0, false⟩ := rfl
theorem end23' (b b1 w1 b2 w2 : Nat) (s t : Int) : mapP (setP (L3 b b1 w1 b2 w2 (e2 s) ⟨3, 1, 1, 0, 0, [], 0, false⟩) 3 (endedP ⟨3, 1, 1, 0, 0, [], 0, false⟩ t)) (orphan 3) = L3 b b1 w1 b2 w2 (e2 s) (e3 t) := rfl
theorem end32 (b b1 w1 b2 w2 : Nat) (t : Int) : mapP (setP (L3 b b1 w1 b2 w2 p2 p3) 3 (endedP p3 t)) (orphan 3) = L3 b b1 w1 b2 w2 p2 ⟨3, 2, 3, 0, 0, [], t, false⟩ := rfl
theorem end32' (b b1 w1 b2 w2 : Nat) (s t : Int) : mapP (setP (L3 b b1 w1 b2 w2 p2 ⟨3, 2, 3, 0, 0, [], t, false⟩) 2 (endedP p2 s)) (orphan 2) = L3 b b1 w1 b2 w2 (e2 s) (e3 t) := rfl
theorem order3 (b b1 w1 b2 w2 : Nat) (s t : Int) : inOrder (L3 b b1 w1 b2 w2 (e2 s) (e3 t)) = L3 b b1 w1 b2 w2 (e2 s) (e3 t) := inOrder_up (by show List.Pairwise (· < ·) [(1 : Int), 2, 3]; decide)
theorem order2 (b b2 w2 : Nat) (t : Int) : inOrder [⟨b, 0, newP⟩, ⟨b2, w2, e3 t⟩] = [⟨b, 0, newP⟩, ⟨b2, w2, e3 t⟩] := inOrder_up (by show List.Pairwise (· < ·) [(1 : Int), 3]; decide)
theorem order1 (b : Nat) : inOrder [⟨b, 0, newP⟩] = [⟨b, 0, newP⟩] := inOrder_up (by show List.Pairwise (· < ·) [(1 : Int)]; decide)
theorem wait3 (b b1 w1 b2 w2 : Nat) (s t : Int) : waitZ (L3 b b1 w1 b2 w2 (e2 s) (e3 t)) 1 = some ⟨b1, w1, e2 s⟩ := by rw [waitZ, order3]; rfl
theorem wait2 (b b2 w2 : Nat) (t : Int) : waitZ [⟨b, 0, newP⟩, ⟨b2, w2, e3 t⟩] 1 = some ⟨b2, w2, e3 t⟩ := by rw [waitZ, order2]; rfl
theorem wait1 (b : Nat) : waitZ [⟨b, 0, newP⟩] 1 = none := by rw [waitZ, order1]; rfl
theorem wrong1 (b : Nat) : wrongP (inOrder [⟨b, 0, newP⟩]) 1 = 62 := by rw [order1]; rfl
abbrev q1 : SpM := { q0 with root := r1 }
/-- two forks -/
theorem fork_1 (σ : KS) (hw : WfK σ) (b : Nat) (hM : σ.M = M0) (hL : σ.L = L1 b) (hlast : σ.last = 1) (hs : spOf σ 1 = some q0) :
    Spec Tryz.prog 11 [ptrB σ.k, .int .i64 1, .agg (cV 1 0).cells.toArray] (kH σ) fun v H' => v = RS.val ⟨0, 2, 0, [], false⟩ ∧
      ∃ σ' b1 w1, WfK σ' ∧ σ'.k = σ.k ∧ σ'.M = M1 ∧ σ'.L = [⟨b, 0, newP⟩, ⟨b1, w1, p2⟩] ∧ σ'.last = 2 ∧ spOf σ' 1 = some q0 ∧ spOf σ' 2 = some q1 ∧ H' = kH σ' := by
  have hS := step_fork σ hw 1 (p := ⟨b, 0, newP⟩) (s := q0) (by rw [hL]; rfl) rfl hs (by rw [hM]; exact fork1_e) (by rw [hL]; show 1 < 16; decide) (by rw [hlast]; decide)
  refine hS.mono ?_
  rintro v H' ⟨rfl, σ', b1, h1, h2, h3, h4, h5, h6, rfl⟩
  rw [hlast] at h4 h5 h6 ⊢
  rw [hL] at h4
  rw [hM] at h3 h6
  refine ⟨rfl, σ', b1, σ.c, h1, h2, h3, h4, h5, ?_, ?_, rfl⟩
  · rw [h6, if_neg (by decide), hs]
  · exact (h6 2).trans (if_pos (by decide))
theorem fork_2 (σ : KS) (hw : WfK σ) (b b1 w1 : Nat) (hM : σ.M = M1) (hL : σ.L = [⟨b, 0, newP⟩, ⟨b1, w1, p2⟩]) (hlast : σ.last = 2) (hs : spOf σ 1 = some q0) (hs2 : spOf σ 2 = some q1) :
    Spec Tryz.prog 11 [ptrB σ.k, .int .i64 2, .agg (cV 1 0).cells.toArray] (kH σ) fun v H' => v = RS.val ⟨0, 3, 0, [], false⟩ ∧
      ∃ σ' b2 w2 s2 s3, WfK σ' ∧ σ'.k = σ.k ∧ σ'.L = L3 b b1 w1 b2 w2 p2 p3 ∧ σ'.last = 3 ∧ spOf σ' 1 = some q0 ∧ spOf σ' 2 = some s2 ∧ spOf σ' 3 = some s3 ∧ H' = kH σ' := by
  have hS := step_fork σ hw 2 (p := ⟨b1, w1, p2⟩) (s := q1) (by rw [hL]; rfl) rfl hs2 (by rw [hM]; exact fork2_e) (by rw [hL]; show 2 < 16; decide) (by rw [hlast]; decide)
  refine hS.mono ?_
  rintro v H' ⟨rfl, σ', b2, h1, h2, -, h4, h5, h6, rfl⟩
  rw [hlast] at h4 h5 h6 ⊢
  rw [hL] at h4
  have g3 := (h6 3).trans (if_pos (by decide))
  exact ⟨rfl, σ', b2, σ.c, q1, _, h1, h2, h4, h5, by rw [h6, if_neg (by decide), hs], by rw [h6, if_neg (by decide), hs2], g3, rfl⟩
theorem exit_1 (σ : KS) (hw : WfK σ) (pid status : Int) (h1 : pid ≠ 1) (hst : 0 ≤ status ∧ status ≤ 255) {p : PE} (hp : findP σ.L pid = some p) (hrun : p.p.state = 1) {s s2 s3 : SpM} (hs : spOf σ pid = some s) (hs1 : spOf σ 1 = some q0) (hs2 : spOf σ 2 = some s2) (hs3 : spOf σ 3 = some s3) {L' : List PE} (hL : mapP (setP σ.L pid (endedP p.p status)) (orphan pid) = L') :
    Spec Tryz.prog 11 [ptrB σ.k, .int .i64 pid, .agg (cV 3 status).cells.toArray] (kH σ) fun v H' => v = rs0.val ∧
      ∃ σ', WfK σ' ∧ σ'.k = σ.k ∧ σ'.L = L' ∧ spOf σ' 1 = some q0 ∧ spOf σ' 2 = some s2 ∧ spOf σ' 3 = some s3 ∧ H' = kH σ' := by
  refine (step_exit σ hw pid status hp hrun hs hst h1).mono ?_
  rintro v H' ⟨rfl, σ', h1, h2, -, h4, -, h6, rfl⟩
  exact ⟨rfl, σ', h1, h2, by rw [h4, hL], by rw [h6, hs1], by rw [h6, hs2], by rw [h6, hs3], rfl⟩
theorem wait_1 (σ : KS) (hw : WfK σ) {p z : PE} (hp : findP σ.L 1 = some p) (hrun : p.p.state = 1) (hs : spOf σ 1 = some q0) (hz : waitZ σ.L 1 = some z) (hne : z.p.pid ≠ 1) {L' : List PE} (hL : delP σ.L z.p.pid = L') :
    Spec Tryz.prog 11 [ptrB σ.k, .int .i64 1, .agg (cV 4 0).cells.toArray] (kH σ) fun v H' => v = RS.val ⟨0, z.p.pid, z.p.status, [], false⟩ ∧
      ∃ σ', WfK σ' ∧ σ'.k = σ.k ∧ σ'.L = L' ∧ spOf σ' 1 = some q0 ∧ H' = kH σ' := by
  refine (step_wait σ hw 1 hp hrun hs hz hne).mono ?_
  rintro v H' ⟨rfl, σ', h1, h2, -, h4, -, h6, rfl⟩
  exact ⟨rfl, σ', h1, h2, by rw [h4, hL], by rw [h6 1 (Ne.symm hne), hs], rfl⟩
theorem orphans_spec (gx : Nat × Nat × Nat) (x y : Int) (first : Bool) : Spec Tryz.prog 5 [.int .i64 x, .int .i64 y, .bool first] [gvB gx] fun v H' => v = .bool true ∧ H' = [gvB gx] := by
  refine Spec_body Tryz.func5 rfl Tryz.ntmps5 rfl (fun w0 => ?_)
  obtain ⟨s, hs⟩ : ∃ s, bits .and .i64 x 255 = s := ⟨_, rfl⟩
  obtain ⟨t, ht⟩ : ∃ t, bits .and .i64 y 255 = t := ⟨_, rfl⟩
  have hsr := and255 x
  have htr := and255 y
  rw [hs] at hsr
  rw [ht] at htr
  repeat (first | refine stepA ?_ | intro _)
  refine callA ?_; refine ⟨_, _, shown_spec, _, cutA, ?_⟩
  rintro v H' ⟨rfl, rfl⟩
  simp only [List.cons_append, List.nil_append]
  repeat (first | refine stepA ?_ | intro _)
  refine callT ?_; refine ⟨_, _, booted_spec, _, cutT, ?_⟩
  rintro v H' ⟨σ, b, rfl, hw, hM, hL, hlast, hs1, rfl⟩
  simp only [List.cons_append, List.nil_append]
  have hS := fork_1 σ hw b hM hL hlast hs1
  obtain ⟨k, hk⟩ : ∃ k, σ.k = k := ⟨_, rfl⟩
  rw [hk] at hS ⊢
  repeat (first | refine stepA ?_ | intro _)
  refine callT ?_; refine ⟨_, _, hS, _, cutT, ?_⟩
  rintro v H' ⟨rfl, σ1, b1, w1, hw1, hk1, hM1, hL1, hlast1, hs11, hs12, rfl⟩
  simp only [List.cons_append, List.nil_append]
  have hS2 := fork_2 σ1 hw1 b b1 w1 hM1 hL1 hlast1 hs11 hs12
  rw [hk1] at hS2
  repeat (first | refine stepA ?_ | intro _)
  refine callT ?_; refine ⟨_, _, hS2, _, cutT, ?_⟩
  rintro v H' ⟨rfl, σ2, b2, w2, s2, s3, hw2, hk2, hL2, hlast2, hs21, hs22, hs23, rfl⟩
  simp only [List.cons_append, List.nil_append]
  cases first with
  | true =>
    have hE := exit_1 σ2 hw2 2 s (by decide) hsr (p := ⟨b1, w1, p2⟩) (by rw [hL2]; rfl) rfl hs22 hs21 hs22 hs23 (L' := L3 b b1 w1 b2 w2 (e2 s) ⟨3, 1, 1, 0, 0, [], 0, false⟩) (by rw [hL2]; rfl)
    rw [hk2] at hE
    repeat (first | refine stepA ?_ | intro _)
    (first | (apply L_P; (· exact rfl); (· exact rfl)) | (apply QL_P; (· exact rfl))); (· (apply P_and; (· exact evA); (· exact evA); (· exact hs)))
    repeat (first | refine stepA ?_ | intro _)
    refine callT ?_; refine ⟨_, _, hE, _, cutT, ?_⟩
    rintro v H' ⟨rfl, σ3, hw3, hk3, hL3, hs31, hs32, hs33, rfl⟩
    simp only [List.cons_append, List.nil_append]
    have hE2 := exit_1 σ3 hw3 3 t (by decide) htr (p := ⟨b2, w2, ⟨3, 1, 1, 0, 0, [], 0, false⟩⟩) (by rw [hL3]; rfl) rfl hs33 hs31 hs32 hs33 (L' := L3 b b1 w1 b2 w2 (e2 s) (e3 t)) (by rw [hL3]; rfl)
    rw [hk3] at hE2
    repeat (first | refine stepA ?_ | intro _)
    (first | (apply L_P; (· exact rfl); (· exact rfl)) | (apply QL_P; (· exact rfl))); (· (apply P_and; (· exact evA); (· exact evA); (· exact ht)))
    repeat (first | refine stepA ?_ | intro _)
    refine callT ?_; refine ⟨_, _, hE2, _, cutT, ?_⟩
    rintro v H' ⟨rfl, σ4, hw4, hk4, hL4, hs41, hs42, hs43, rfl⟩
    simp only [List.cons_append, List.nil_append]
    repeat (first | refine stepA ?_ | intro _)
    have hP := kproc_spec σ4 hw4 3 (p := ⟨b2, w2, e3 t⟩) (by rw [hL4]; rfl)
    rw [hk4] at hP
    refine callT ?_; refine ⟨_, _, hP, _, cutT, ?_⟩
    rintro v H' ⟨rfl, rfl⟩
    simp only [List.cons_append, List.nil_append]
    repeat (first | refine stepA ?_ | intro _)
    have hW := wait_1 σ4 hw4 (p := ⟨b, 0, newP⟩) (z := ⟨b1, w1, e2 s⟩) (by rw [hL4]; rfl) rfl hs41 (by rw [hL4]; exact wait3 b b1 w1 b2 w2 s t) (by show (2 : Int) ≠ 1; decide) (L' := [⟨b, 0, newP⟩, ⟨b2, w2, e3 t⟩]) (by rw [hL4]; rfl)
    rw [hk4] at hW
    repeat (first | refine stepA ?_ | intro _)
    refine callT ?_; refine ⟨_, _, hW, _, cutT, ?_⟩
    rintro v H' ⟨rfl, σ5, hw5, hk5, hL5, hs51, rfl⟩
    simp only [List.cons_append, List.nil_append]
    have hW2 := wait_1 σ5 hw5 (p := ⟨b, 0, newP⟩) (z := ⟨b2, w2, e3 t⟩) (by rw [hL5]; rfl) rfl hs51 (by rw [hL5]; exact wait2 b b2 w2 t) (by show (3 : Int) ≠ 1; decide) (L' := [⟨b, 0, newP⟩]) (by rw [hL5]; rfl)
    rw [hk5] at hW2
    repeat (first | refine stepA ?_ | intro _)
    refine callT ?_; refine ⟨_, _, hW2, _, cutT, ?_⟩
    rintro v H' ⟨rfl, σ6, hw6, hk6, hL6, hs61, rfl⟩
    simp only [List.cons_append, List.nil_append]
    have hW3 := step_waitnone gx σ6 hw6 1 (p := ⟨b, 0, newP⟩) (by rw [hL6]; rfl) rfl hs61 (by rw [hL6]; exact wait1 b) (by rw [hL6]; exact wrong1 b)
    rw [hk6] at hW3
    repeat (first | refine stepA ?_ | intro _)
    refine callT ?_; refine ⟨_, _, hW3, _, cutT, ?_⟩
    rintro v H' ⟨rfl, σ7, hw7, -, -, -, -, -, rfl⟩
    simp only [List.cons_append, List.nil_append]
    repeat (first | refine stepA ?_ | intro _)
    (first | (apply L_P; (· exact rfl); (· exact rfl)) | (apply QL_P; (· exact rfl)))
    · exact P_eqS (xs := RS.cells ⟨0, 3, 0, [], false⟩) (ys := RS.cells ⟨0, 3, 0, [], false⟩) (b := true) (ev_of rfl rfl) (ev_of rfl rfl) (fitRS _) (fitRS _) (by simp)
    repeat (first | refine stepA ?_ | intro _)
    (first | (apply L_P; (· exact rfl); (· exact rfl)) | (apply QL_P; (· exact rfl))); (· (apply P_and; (· exact evA); (· exact evA); (· exact hs)))
    repeat (first | refine stepA ?_ | intro _)
    (first | (apply L_P; (· exact rfl); (· exact rfl)) | (apply QL_P; (· exact rfl)))
    · exact P_eqS (xs := RS.cells ⟨0, 2, s, [], false⟩) (ys := RS.cells ⟨0, 2, s, [], false⟩) (b := true) (ev_of rfl rfl) (ev_of rfl rfl) (fitRS _) (fitRS _) (by simp)
    repeat (first | refine stepA ?_ | intro _)
    (first | (apply L_P; (· exact rfl); (· exact rfl)) | (apply QL_P; (· exact rfl))); (· (apply P_and; (· exact evA); (· exact evA); (· exact ht)))
    repeat (first | refine stepA ?_ | intro _)
    (first | (apply L_P; (· exact rfl); (· exact rfl)) | (apply QL_P; (· exact rfl)))
    · exact P_eqS (xs := RS.cells ⟨0, 3, t, [], false⟩) (ys := RS.cells ⟨0, 3, t, [], false⟩) (b := true) (ev_of rfl rfl) (ev_of rfl rfl) (fitRS _) (fitRS _) (by simp)
    repeat (first | refine stepA ?_ | intro _)
    (first | (apply L_P; (· exact rfl); (· exact rfl)) | (apply QL_P; (· exact rfl)))
    · exact P_eqS (xs := RS.cells ⟨62, 0, 0, [], false⟩) (ys := RS.cells ⟨62, 0, 0, [], false⟩) (b := true) (ev_of rfl rfl) (ev_of rfl rfl) (fitRS _) (fitRS _) (by simp)
    repeat (first | refine stepA ?_ | intro _)
    (first | refine retA ?_ | refine retB ?_); exact ⟨_, ⟨rfl, rfl⟩, subA⟩
  | false =>
    have hE := exit_1 σ2 hw2 3 t (by decide) htr (p := ⟨b2, w2, p3⟩) (by rw [hL2]; rfl) rfl hs23 hs21 hs22 hs23 (L' := L3 b b1 w1 b2 w2 p2 ⟨3, 2, 3, 0, 0, [], t, false⟩) (by rw [hL2]; rfl)
    rw [hk2] at hE
    repeat (first | refine stepA ?_ | intro _)
    (first | (apply L_P; (· exact rfl); (· exact rfl)) | (apply QL_P; (· exact rfl))); (· (apply P_and; (· exact evA); (· exact evA); (· exact ht)))
    repeat (first | refine stepA ?_ | intro _)
    refine callT ?_; refine ⟨_, _, hE, _, cutT, ?_⟩
    rintro v H' ⟨rfl, σ3, hw3, hk3, hL3, hs31, hs32, hs33, rfl⟩
    simp only [List.cons_append, List.nil_append]
    have hE2 := exit_1 σ3 hw3 2 s (by decide) hsr (p := ⟨b1, w1, p2⟩) (by rw [hL3]; rfl) rfl hs32 hs31 hs32 hs33 (L' := L3 b b1 w1 b2 w2 (e2 s) (e3 t)) (by rw [hL3]; rfl)
    rw [hk3] at hE2
    repeat (first | refine stepA ?_ | intro _)
    (first | (apply L_P; (· exact rfl); (· exact rfl)) | (apply QL_P; (· exact rfl))); (· (apply P_and; (· exact evA); (· exact evA); (· exact hs)))
    repeat (first | refine stepA ?_ | intro _)
    refine callT ?_; refine ⟨_, _, hE2, _, cutT, ?_⟩
    rintro v H' ⟨rfl, σ4, hw4, hk4, hL4, hs41, hs42, hs43, rfl⟩
    simp only [List.cons_append, List.nil_append]
    repeat (first | refine stepA ?_ | intro _)
    have hP := kproc_spec σ4 hw4 3 (p := ⟨b2, w2, e3 t⟩) (by rw [hL4]; rfl)
    rw [hk4] at hP
    refine callT ?_; refine ⟨_, _, hP, _, cutT, ?_⟩
    rintro v H' ⟨rfl, rfl⟩
    simp only [List.cons_append, List.nil_append]
    repeat (first | refine stepA ?_ | intro _)
    have hW := wait_1 σ4 hw4 (p := ⟨b, 0, newP⟩) (z := ⟨b1, w1, e2 s⟩) (by rw [hL4]; rfl) rfl hs41 (by rw [hL4]; exact wait3 b b1 w1 b2 w2 s t) (by show (2 : Int) ≠ 1; decide) (L' := [⟨b, 0, newP⟩, ⟨b2, w2, e3 t⟩]) (by rw [hL4]; rfl)
    rw [hk4] at hW
    repeat (first | refine stepA ?_ | intro _)
    refine callT ?_; refine ⟨_, _, hW, _, cutT, ?_⟩
    rintro v H' ⟨rfl, σ5, hw5, hk5, hL5, hs51, rfl⟩
    simp only [List.cons_append, List.nil_append]
    have hW2 := wait_1 σ5 hw5 (p := ⟨b, 0, newP⟩) (z := ⟨b2, w2, e3 t⟩) (by rw [hL5]; rfl) rfl hs51 (by rw [hL5]; exact wait2 b b2 w2 t) (by show (3 : Int) ≠ 1; decide) (L' := [⟨b, 0, newP⟩]) (by rw [hL5]; rfl)
    rw [hk5] at hW2
    repeat (first | refine stepA ?_ | intro _)
    refine callT ?_; refine ⟨_, _, hW2, _, cutT, ?_⟩
    rintro v H' ⟨rfl, σ6, hw6, hk6, hL6, hs61, rfl⟩
    simp only [List.cons_append, List.nil_append]
    have hW3 := step_waitnone gx σ6 hw6 1 (p := ⟨b, 0, newP⟩) (by rw [hL6]; rfl) rfl hs61 (by rw [hL6]; exact wait1 b) (by rw [hL6]; exact wrong1 b)
    rw [hk6] at hW3
    repeat (first | refine stepA ?_ | intro _)
    refine callT ?_; refine ⟨_, _, hW3, _, cutT, ?_⟩
    rintro v H' ⟨rfl, σ7, hw7, -, -, -, -, -, rfl⟩
    simp only [List.cons_append, List.nil_append]
    repeat (first | refine stepA ?_ | intro _)
    (first | (apply L_P; (· exact rfl); (· exact rfl)) | (apply QL_P; (· exact rfl)))
    · exact P_eqS (xs := RS.cells ⟨0, 3, 0, [], false⟩) (ys := RS.cells ⟨0, 3, 0, [], false⟩) (b := true) (ev_of rfl rfl) (ev_of rfl rfl) (fitRS _) (fitRS _) (by simp)
    repeat (first | refine stepA ?_ | intro _)
    (first | (apply L_P; (· exact rfl); (· exact rfl)) | (apply QL_P; (· exact rfl))); (· (apply P_and; (· exact evA); (· exact evA); (· exact hs)))
    repeat (first | refine stepA ?_ | intro _)
    (first | (apply L_P; (· exact rfl); (· exact rfl)) | (apply QL_P; (· exact rfl)))
    · exact P_eqS (xs := RS.cells ⟨0, 2, s, [], false⟩) (ys := RS.cells ⟨0, 2, s, [], false⟩) (b := true) (ev_of rfl rfl) (ev_of rfl rfl) (fitRS _) (fitRS _) (by simp)
    repeat (first | refine stepA ?_ | intro _)
    (first | (apply L_P; (· exact rfl); (· exact rfl)) | (apply QL_P; (· exact rfl))); (· (apply P_and; (· exact evA); (· exact evA); (· exact ht)))
    repeat (first | refine stepA ?_ | intro _)
    (first | (apply L_P; (· exact rfl); (· exact rfl)) | (apply QL_P; (· exact rfl)))
    · exact P_eqS (xs := RS.cells ⟨0, 3, t, [], false⟩) (ys := RS.cells ⟨0, 3, t, [], false⟩) (b := true) (ev_of rfl rfl) (ev_of rfl rfl) (fitRS _) (fitRS _) (by simp)
    repeat (first | refine stepA ?_ | intro _)
    (first | (apply L_P; (· exact rfl); (· exact rfl)) | (apply QL_P; (· exact rfl)))
    · exact P_eqS (xs := RS.cells ⟨62, 0, 0, [], false⟩) (ys := RS.cells ⟨62, 0, 0, [], false⟩) (b := true) (ev_of rfl rfl) (ev_of rfl rfl) (fitRS _) (fitRS _) (by simp)
    repeat (first | refine stepA ?_ | intro _)
    (first | refine retA ?_ | refine retB ?_); exact ⟨_, ⟨rfl, rfl⟩, subA⟩
end Go.Proofs.YtcpfmjlceoiofaaGreatDoor
