/-
  Joined texts; each begins with its own sentence.
-/
import Derived.Test.YtcpfmjlceoiofaaGreatDoorN40
import Derived.Test.YtcpfmjlceoiofaaGreatDoorN35
import Derived.Test.YtcpfmjlceoiofaaGreatDoorN38
set_option linter.unusedSimpArgs false
set_option linter.unusedVariables false
set_option linter.unusedSectionVars false
/-
  The kernel: Step, whatever its call tells, and what again does behind it.
-/
namespace Go.Proofs.YtcpfmjlceoiofaaGreatDoor
open Go.RowKit
attribute [local irreducible] W L QL PureOp thenQ blockQ retQ Spec IterOk YSpec roundQ scopeQ noGoQ
attribute [local irreducible] AS ASi IterOkC retD retE
set_option maxHeartbeats 12800000
set_option maxRecDepth 8000
/-- again is called until it does nothing, at most so often; then F holds -/
def AgRuns (k : Nat) (F : Hp → Prop) : Nat → Hp → Prop
  | 0, H => Spec Tryz.prog 29 [ptrB k] H fun v H' => v = .bool false ∧ F H'
  | m + 1, H => Spec Tryz.prog 29 [ptrB k] H fun v H' => (v = .bool false ∧ F H') ∨ (v = .bool true ∧ AgRuns k F m H')
theorem AgRuns.spec {k : Nat} {F : Hp → Prop} : ∀ {m : Nat} {H : Hp}, AgRuns k F m H → Spec Tryz.prog 29 [ptrB k] H fun v H' => (v = .bool false ∧ F H') ∨ (v = .bool true ∧ ∃ m', m' < m ∧ AgRuns k F m' H')
  | 0, _, h => Spec.mono h fun _ _ q => .inl q
  | m + 1, _, h => Spec.mono h fun _ _ q => q.imp id fun ⟨q1, q2⟩ => ⟨q1, m, Nat.lt_succ_self m, q2⟩
theorem AgRuns.perm {k : Nat} {F : Hp → Prop} {m : Nat} {H H2 : Hp} (p : H.Perm H2) (h : AgRuns k F m H2) : AgRuns k F m H := by
  cases m with
  | zero => exact Spec.perm p h
  | succ m => exact Spec.perm p h
theorem Tail.permT {H T A Hs T2 : Hp} (p : T.Perm (Hs ++ T2)) (h : Tail H T A := by repeat (first | exact Tail.nil | apply Tail.cons)) : H.Perm (Hs ++ (A ++ T2)) := by
  refine (h.perm.trans (List.Perm.append_right A p)).trans ?_
  exact permA
theorem tkXs_E (T : List (GE TK)) (Hw E : Hp) : (tkXs T (Hw ++ E)).Perm (tkXs T E ++ Hw) := by
  unfold tkXs
  exact permA
abbrev sleepK (σ : KS) (pid : Int) (p : PR) (t : GE TK) (x : CallV) (s ch : List UInt8) (g n c : Nat) (E : Hp) : KS :=
  { σ with L := setP σ.L pid (asleepP p ch), T := setG σ.T pid { t.v with c := x, da := s }, wa := some ⟨g, 0, none⟩, wn := n, wc := c, E := E }
theorem Sub.permL {A A2 H : Hp} (p : A.Perm A2) (h : Sub A2 H) : Sub A H := by
  obtain ⟨R, c⟩ := h.cut
  exact Sub.ofPermR (R := R) ((List.Perm.append_right R p).trans c.perm.symm)
section
variable (σ : KS)
theorem step_all (gx : Nat × Nat × Nat) (pid : Int) (x : CallV) {p : PE} {t : GE TK} (hp : findP σ.L pid = some p) (hrun : p.p.state = 1) (ht : findG σ.T pid = some t) (hr : RightP x) (s : List UInt8)
    (hrd : ∀ wb, Spec Tryz.prog 25 [ptrB wb] (wkK wb σ.k t.ptr pid p.p.uid p.p.gid x :: kH σ) fun v H' => v = .nilIface ∧ H' = wkD wb σ.k t.ptr pid p.p.uid p.p.gid x s :: kH σ)
    (f : FuncId) (inst : FnOk Tryz.prog f)
    (hsel : ∀ wb Ls, getL Ls 1 = some (deedV 50 wb) ∧ getL Ls 8 = some (deedV 57 wb) ∧ getL Ls 9 = some (deedV 58 wb) ∧
      getL Ls 18 = some (deedV 67 wb) ∧ getL Ls 19 = some (deedV 68 wb) ∧ getL Ls 20 = some (deedV 69 wb) → getL Ls x.no = some (deedV f wb))
    (R : RS → KS → Prop)
    (hd : ∀ wb, Spec Tryz.prog f [ptrB wb] (wkD wb σ.k t.ptr pid p.p.uid p.p.gid x s :: kH σ) fun v H' => ∃ u r0 Hg rs σ', v = .tuple #[r0.val, u] ∧ TellsH rs r0 u Hg ∧ R rs σ' ∧ H' = Hg ++ wkD wb σ.k t.ptr pid p.p.uid p.p.gid x s :: kH σ')
    (hR : ∀ rs σ', R rs σ' → σ'.k = σ.k ∧ ∃ t', findG σ'.T pid = some t' ∧ t'.b = t.b)
    (F : RS → Hp → Prop)
    (hgo : ∀ rs σ' t', R rs σ' → rs.w = false → findG σ'.T pid = some t' → t'.b = t.b → ∃ m, AgRuns σ.k (F rs) m (gvB gx :: kH (setR σ' pid t' rs)))
    (hwt : ∀ rs σ' t', R rs σ' → rs.w = true → findG σ'.T pid = some t' → t'.b = t.b → ∃ (n : Nat) (ws : List Int) (Hw E0 : Hp) (q : PE), pid = (n : Int) ∧ n < 10 ∧ σ'.E = Hw ++ E0 ∧ ws.length ≤ 100 ∧ σ'.wn = ws.length ∧ Own 3 1 σ'.wa ws.length σ'.wc (ivs ws) Hw ∧ findP σ'.L pid = some q ∧ q.p.state = 1 ∧
      ∀ g c ys, c * 1 ≤ (ivs (ws ++ [pid]) ++ ys).length → ws.length + 1 ≤ c → c ≤ maxLen → ∃ m, AgRuns σ.k (F rs) m (gvB gx :: kH (sleepK σ' pid q.p t' x s (chanOf n) g (ws.length + 1) c (wiB g (ws ++ [pid]) ys :: E0)))) :
    Spec Tryz.prog 11 [ptrB σ.k, .int .i64 pid, .agg x.cells.toArray] (gvB gx :: kH σ) fun v H' => ∃ rs, v = rs.val ∧ F rs H' := by
  refine Spec_body Tryz.func11 rfl Tryz.ntmps11 rfl (fun w0 => ?_)
  have hg := (prget_spec σ.pr σ.mb σ.last σ.L σ.c pid).frame (blkG rowK σ.R ++ (blkG tkB σ.T ++ tkXs σ.T σ.E))
  simp only [hp, fndE, Option.elim, Option.map_some, Option.getD_some, List.cons_append, List.nil_append] at hg
  repeat (first | refine stepA ?_ | intro _)
  rename_i b5 b6
  refine callT ?_; refine ⟨_, _, hg, _, cutT, ?_⟩
  rintro v H' ⟨H1, ⟨rfl, rfl⟩, rfl⟩
  simp only [List.cons_append, List.nil_append]
  repeat (first | refine stepA ?_ | intro _)
  rename_i b7
  refine callA ?_; refine ⟨_, _, right_spec x, _, cutA, ?_⟩
  rintro v H' ⟨rfl, rfl⟩
  simp only [List.cons_append, List.nil_append]
  rw [decide_eq_true hr]
  repeat (first | refine stepA ?_ | intro _)
  refine callT ?_; refine ⟨_, _, worker_spec σ pid x hp ht, _, cutT, ?_⟩
  rintro v H' ⟨wb, rfl, rfl⟩
  simp only [List.cons_append, List.nil_append]
  repeat (first | refine stepA ?_ | intro _)
  refine callT ?_; refine ⟨_, _, hrd wb, _, cutT, ?_⟩
  rintro v H' ⟨rfl, rfl⟩
  simp only [List.cons_append, List.nil_append]
  repeat (first | refine stepA ?_ | intro _)
  refine callA ?_; refine ⟨_, _, result_nil rs0, _, cutA, ?_⟩
  rintro v H' ⟨rfl, rfl⟩
  simp only [List.cons_append, List.nil_append]
  repeat (first | refine stepA ?_ | intro _)
  rename_i b10 b11
  (first | (apply L_P; (· exact rfl); (· exact rfl)) | (apply QL_P; (· exact rfl)))
  · exact P_eqS (xs := rs0.cells) (ys := rs0.cells) (b := true) (ev_of rfl rfl) (ev_of rfl rfl) fitR fitR (by simp)
  repeat (first | refine stepA ?_ | intro _)
  refine W_any [(b10, .cells rs0.cells 31), (b5, .cells x.cells 34)] [9] rfl ?_
  refine AS_at 0 (by decide +kernel) ?_; refine takeA ?_
  refine AS_at 2 (by decide +kernel) ?_; refine takeA ?_
  refine AS_at 3 (by decide +kernel) ?_; refine takeA ?_
  refine AS_one 1 rfl (by decide +kernel) rfl ?_
  refine callA ?_; refine ⟨_, _, deeds_mail wb, _, cutA, ?_⟩
  rintro v H' ⟨mb, Ls, dc, rfl, rfl, hLs⟩
  simp only [List.cons_append, List.nil_append]
  refine L_nil ?_; refine ⟨rfl, (by first | exact KeepsH.brk (by decide +kernel) | exact KeepsH.sub subA | exact KeepsH.sub subT), ?_⟩
  refine AS_one 4 rfl (by decide +kernel) rfl ?_
  (first | (apply L_P; (· exact rfl); (· exact rfl)) | (apply QL_P; (· exact rfl))); (· (apply P_lookup; (· exact evA); (· exact evA); (· exact pullA)))
  rw [hsel wb Ls hLs, Option.getD_some]
  refine L_nil ?_; refine ⟨rfl, (by first | exact KeepsH.brk (by decide +kernel) | exact KeepsH.sub subA | exact KeepsH.sub subT), ?_⟩
  refine AS_one 5 rfl (by decide +kernel) rfl ?_
  refine callBT (f := f) (pre := [ptrB wb]) ?_
  refine ⟨_, _, (hd wb).tells (mb, mapB Ls dc), _, cutT, ?_⟩
  rintro v H' ⟨u, r0, y2, rs, τ, rfl, htell, hRr, rfl⟩
  simp only [List.cons_append, List.nil_append]
  refine L_nil ?_; refine ⟨rfl, (by first | exact KeepsH.brk (by decide +kernel) | exact KeepsH.sub subA | exact KeepsH.sub subT), ?_⟩
  refine AS_at 6 (by decide +kernel) ?_; refine takeA ?_
  refine AS_at 7 (by decide +kernel) ?_; refine takeA ?_
  refine AS_one 8 rfl (by decide +kernel) rfl ?_
  refine callA ?_; refine ⟨_, _, result_spec gx htell, _, cutA, ?_⟩
  rintro v H' ⟨rfl, rfl⟩
  simp only [List.cons_append, List.nil_append]
  refine L_nil ?_; refine ⟨rfl, (by first | exact KeepsH.brk (by decide +kernel) | exact KeepsH.sub subA | exact KeepsH.sub subT), ?_⟩
  refine AS_one 9 rfl (by decide +kernel) rfl ?_
  refine stepA ?_
  refine L_nil ?_; refine ⟨rfl, (by first | exact KeepsH.brk (by decide +kernel) | exact KeepsH.sub subA | exact KeepsH.sub subT), ?_⟩
  refine AS_done (by decide +kernel) ?_
  repeat (first | refine stepA ?_ | intro _)
  obtain ⟨hk, t', ht', htb⟩ := hR rs τ hRr
  obtain ⟨Q1, hQ1⟩ : ∃ Q1 : PostT, Q1 = fun e l' ds' H' => ds' = [] ∧ e = .normal ∧ ∃ m H2, AgRuns σ.k (F rs) m H2 ∧
    Subl [(0, ptrB σ.k), (6, ptrB b6), (10, ptrB b10)] l' ∧ Sub ((b10, .cells rs.cells 31) :: (b6, .cells rs0.cells 31) :: H2) H' := ⟨_, rfl⟩
  obtain ⟨tb', tw', tk', tv'⟩ := t'
  simp only at htb
  subst htb
  obtain ⟨ZT, pT, pT2, -⟩ := blkG_at tkB ht'
  simp only at pT pT2
  have hkb : kH τ = (σ.k, Blk.cells [τ.m.ptr, ptrB τ.pr, ptrB τ.fr, ptrB τ.pi, ptrB τ.se, ptrB τ.qu, ptrB τ.sg, .map (some τ.tm), .slice τ.wa τ.wn τ.wc] 67) :: kHo τ := by
    show knB τ :: kHo τ = _
    rw [← hk]
  rw [hkb]
  refine W_mono (Q := Q1) ?_ ?_
  · obtain ⟨re, rn, rm, rss, rw⟩ := rs
    cases rw with
    | false =>
      obtain ⟨m, hrn⟩ := hgo _ τ _ hRr rfl ht' rfl
      obtain ⟨ZX, pX, pX2, -⟩ := tkXs_at τ.E ht'
      simp only at pX pX2
      have pZ : (kZ τ.L τ.R τ.T τ.E).Perm (tkB t.b tv' :: (prB τ.L ++ (blkG rowK τ.R ++ (ZT ++ tkXs τ.T τ.E)))) := by
        classical
        refine List.perm_iff_count.2 fun x => ?_
        have q1 := pT.count_eq x
        simp only [List.count_append, List.count_cons] at q1 ⊢
        rw [q1]
        ac_rfl
      refine W_tail (T := kZ τ.L τ.R τ.T τ.E) pZ ?_
      simp only [List.cons_append, List.nil_append]
      repeat (first | refine stepA ?_ | intro _)
      refine W_any [wkD wb σ.k (ptrB t.b) pid p.p.uid p.p.gid x s, (b10, .cells (RS.cells ⟨re, rn, rm, rss, false⟩) 31)] [7] rfl ?_
      refine AS_at 0 (by decide +kernel) ?_; refine takeA ?_
      refine AS_at 1 (by decide +kernel) ?_; refine takeA ?_
      refine AS_at 2 (by decide +kernel) ?_; refine takeA ?_
      refine AS_at 3 (by decide +kernel) ?_; refine takeA ?_
      refine AS_at 4 (by decide +kernel) ?_; refine takeA ?_
      refine AS_at 5 (by decide +kernel) ?_; refine takeA ?_
      refine AS_at 6 (by decide +kernel) ?_; refine takeA ?_
      refine AS_one 7 rfl (by decide +kernel) rfl ?_
      refine L_store (cs := RS.cells ⟨re, rn, rm, rss, false⟩) (Ln := ({ tv' with r := ⟨re, rn, rm, rss, false⟩ } : TK).cells) evA evA rfl rfl (fun u hu => List.all_eq_true.1 (show List.all (RS.cells ⟨re, rn, rm, rss, false⟩) (fun u => u.oneCell') = true from rfl) u hu) repA rfl (by simp) ?_
      refine L_nil ?_; refine ⟨rfl, (by first | exact KeepsH.brk (by decide +kernel) | exact KeepsH.sub subA | exact KeepsH.sub subT), ?_⟩
      refine AS_done (by decide +kernel) ?_
      repeat (first | refine stepA ?_ | intro _)
      rw [hQ1]
      refine ⟨rfl, rfl, m, _, hrn, sublA, ?_⟩
      obtain ⟨nt, hnt⟩ : ∃ nt : TK, nt = { tv' with r := ⟨re, rn, rm, rss, false⟩ } := ⟨_, rfl⟩
      have q1' := pT2 nt
      have q2' := pX2 nt
      have eX : tkX nt = tkX tv' := by rw [hnt]; rfl
      rw [eX] at q2'
      have q2'' := q2'.trans pX.symm
      obtain ⟨T', hT'⟩ : ∃ T', T' = setG τ.T pid nt := ⟨_, rfl⟩
      rw [← hT'] at q1' q2''
      have e3 : T'.map GE.kv = τ.T.map GE.kv := by rw [hT']; exact setG_kv
      have pF : ((b10, Blk.cells (RS.cells ⟨re, rn, rm, rss, false⟩) 31) :: (b6, Blk.cells rs0.cells 31) :: gvB gx :: knB τ :: tbB τ.pr τ.mb τ.last :: kvB τ.mb τ.L τ.c :: flB τ.fr τ.fm τ.fc :: rmB τ.fm τ.R τ.rc :: (τ.tm, mapB (T'.map GE.kv) τ.tc) :: (memH τ.m τ.M ++ kZ τ.L τ.R T' τ.E)).Perm
          ((b10, Blk.cells (RS.cells ⟨re, rn, rm, rss, false⟩) 31) :: (b6, Blk.cells rs0.cells 31) :: gvB gx :: knB τ :: tbB τ.pr τ.mb τ.last :: kvB τ.mb τ.L τ.c :: flB τ.fr τ.fm τ.fc :: rmB τ.fm τ.R τ.rc :: (τ.tm, mapB (τ.T.map GE.kv) τ.tc) :: (memH τ.m τ.M ++ (tkB t.b nt :: (prB τ.L ++ (blkG rowK τ.R ++ (ZT ++ tkXs τ.T τ.E)))))) := by
        rw [e3]
        classical
        refine List.perm_iff_count.2 fun x => ?_
        have q1 := q1'.count_eq x
        have q2 := q2''.count_eq x
        simp only [List.count_append, List.count_cons, List.count_nil, Nat.add_zero, Nat.zero_add] at q1 q2 ⊢
        rw [q1, q2]
        ac_rfl
      have hkn : knB τ = (σ.k, Blk.cells [τ.m.ptr, ptrB τ.pr, ptrB τ.fr, ptrB τ.pi, ptrB τ.se, ptrB τ.qu, ptrB τ.sg, .map (some τ.tm), .slice τ.wa τ.wn τ.wc] 67) := by rw [← hk]
      subst hT' hnt
      refine Sub.permL pF ?_
      rw [hkn]
      exact subT
    | true =>
      obtain ⟨n, ws, Hw, E0, q, rfl, hn, hE, hws, hwn, how, hq, hqs, hall⟩ := hwt _ τ _ hRr rfl ht' rfl
      obtain ⟨ZX, pX, pX2, -⟩ := tkXs_at E0 ht'
      simp only at pX pX2
      obtain ⟨Z0, hZ0⟩ : ∃ Z0, Z0 = blkG rowK τ.R ++ (ZT ++ tkXs τ.T E0) := ⟨_, rfl⟩
      have pZ : (kZ τ.L τ.R τ.T τ.E).Perm (tkB t.b tv' :: (prB τ.L ++ (Z0 ++ Hw))) := by
        rw [hE, hZ0]
        classical
        refine List.perm_iff_count.2 fun x => ?_
        have q1 := pT.count_eq x
        have q3 := (tkXs_E τ.T Hw E0).count_eq x
        simp only [List.count_append, List.count_cons] at q1 q3 ⊢
        rw [q1, q3]
        ac_rfl
      refine W_tail (T := kZ τ.L τ.R τ.T τ.E) pZ ?_
      simp only [List.cons_append, List.nil_append]
      have hS := (prsleep_run τ.pr τ.mb τ.last τ.L τ.c (n : Int) (chanOf n) hq hqs).frame Z0
      simp only [List.cons_append, List.nil_append] at hS
      have how2 : Own 3 1 τ.wa τ.wn τ.wc (ivs ws) Hw := by rw [hwn]; exact how
      repeat (first | refine stepA ?_ | intro _)
      refine W_any [wkD wb σ.k (ptrB t.b) (n : Int) p.p.uid p.p.gid x s, (b5, .cells x.cells 34)] [] rfl ?_
      refine AS_at 0 (by decide +kernel) ?_; refine takeA ?_
      refine AS_at 1 (by decide +kernel) ?_; refine takeA ?_
      refine AS_at 2 (by decide +kernel) ?_; refine takeA ?_
      refine AS_at 3 (by decide +kernel) ?_; refine takeA ?_
      refine AS_at 4 (by decide +kernel) ?_; refine takeA ?_
      refine AS_at 5 (by decide +kernel) ?_; refine takeA ?_
      refine AS_at 6 (by decide +kernel) ?_; refine takeA ?_
      refine AS_at 7 (by decide +kernel) ?_; refine takeA ?_
      refine AS_at 8 (by decide +kernel) ?_; refine takeA ?_
      refine AS_at 9 (by decide +kernel) ?_; refine takeA ?_
      refine AS_at 10 (by decide +kernel) ?_; refine takeA ?_
      refine AS_at 11 (by decide +kernel) ?_; refine takeA ?_
      refine AS_at 12 (by decide +kernel) ?_; refine takeA ?_
      refine AS_at 13 (by decide +kernel) ?_; refine takeA ?_
      refine AS_at 14 (by decide +kernel) ?_; refine takeA ?_
      refine AS_one 15 rfl (by decide +kernel) rfl ?_
      refine L_store (cs := x.cells) (Ln := ({ tv' with c := x } : TK).cells) evA evA rfl rfl (fun u hu => List.all_eq_true.1 (show List.all x.cells (fun u => u.oneCell') = true from rfl) u hu) repA rfl (by simp) ?_
      refine L_nil ?_; refine ⟨rfl, (by first | exact KeepsH.brk (by decide +kernel) | exact KeepsH.sub subA | exact KeepsH.sub subT), ?_⟩
      refine AS_at 16 (by decide +kernel) ?_; refine takeA ?_
      refine AS_at 17 (by decide +kernel) ?_; refine takeA ?_
      refine AS_one 18 rfl (by decide +kernel) rfl ?_
      refine stepA ?_
      refine L_nil ?_; refine ⟨rfl, (by first | exact KeepsH.brk (by decide +kernel) | exact KeepsH.sub subA | exact KeepsH.sub subT), ?_⟩
      refine AS_done (by decide +kernel) ?_
      repeat (first | refine stepA ?_ | intro _)
      rename_i g2
      apply L_append
      · exact rfl
      · exact evA
      · exact evA
      · exact how2
      · exact Tail.permT (T := prB τ.L ++ (Z0 ++ Hw)) (T2 := prB τ.L ++ Z0) permA
      · exact Lies.cells (k := 1) (news := [.int .i64 (n : Int)]) pullA rfl
      · rfl
      · simp [Value.oneCell']
      · omega
      · simp only [maxLen]; omega
      · omega
      · rfl
      rintro g3 c3 ys h1' h2' h3'
      simp only [List.cons_append, List.nil_append]
      repeat (first | refine stepA ?_ | intro _)
      refine W_any [(σ.k, .cells [τ.m.ptr, ptrB τ.pr, ptrB τ.fr, ptrB τ.pi, ptrB τ.se, ptrB τ.qu, ptrB τ.sg, .map (some τ.tm), .slice (some ⟨g3, 0, none⟩) (τ.wn + 1) c3] 67)] [] rfl ?_
      refine AS_at 0 (by decide +kernel) ?_; refine takeA ?_
      refine AS_at 1 (by decide +kernel) ?_; refine takeA ?_
      refine AS_at 2 (by decide +kernel) ?_; refine takeA ?_
      refine AS_at 3 (by decide +kernel) ?_; refine takeA ?_
      refine AS_at 4 (by decide +kernel) ?_; refine takeA ?_
      refine AS_at 5 (by decide +kernel) ?_; refine takeA ?_
      refine AS_one 6 rfl (by decide +kernel) rfl ?_
      refine callA ?_; refine ⟨_, _, channel_ten n hn, _, cutA, ?_⟩
      rintro v H' ⟨rfl, rfl⟩
      simp only [List.cons_append, List.nil_append]
      refine L_nil ?_; refine ⟨rfl, (by first | exact KeepsH.brk (by decide +kernel) | exact KeepsH.sub subA | exact KeepsH.sub subT), ?_⟩
      refine AS_one 7 rfl (by decide +kernel) rfl ?_
      refine callT ?_; refine ⟨_, _, hS, _, cutT, ?_⟩
      rintro v H' ⟨H1, ⟨rfl, rfl⟩, rfl⟩
      simp only [List.cons_append, List.nil_append]
      refine L_nil ?_; refine ⟨rfl, (by first | exact KeepsH.brk (by decide +kernel) | exact KeepsH.sub subA | exact KeepsH.sub subT), ?_⟩
      refine AS_done (by decide +kernel) ?_
      repeat (first | refine stepA ?_ | intro _)
      rw [hQ1]
      have eW : ivs (ws ++ [(n : Int)]) = ivs ws ++ [.int .i64 (n : Int)] := by rw [ivs_append]; rfl
      obtain ⟨m, hrn⟩ := hall g3 c3 ys (by rw [eW]; exact h1') (by omega) h3'
      refine ⟨rfl, rfl, m, _, hrn, sublA, ?_⟩
      obtain ⟨nt, hnt⟩ : ∃ nt : TK, nt = { tv' with c := x, da := s } := ⟨_, rfl⟩
      have q1' := pT2 nt
      have q2' := pX2 nt
      have eX : tkX nt = tkX tv' := by rw [hnt]; rfl
      rw [eX] at q2'
      have q2'' := q2'.trans pX.symm
      obtain ⟨T', hT'⟩ : ∃ T', T' = setG τ.T (n : Int) nt := ⟨_, rfl⟩
      rw [← hT'] at q1' q2''
      have e3 : T'.map GE.kv = τ.T.map GE.kv := by rw [hT']; exact setG_kv
      obtain ⟨L', hL'⟩ : ∃ L', L' = setP τ.L (n : Int) (asleepP q.p (chanOf n)) := ⟨_, rfl⟩
      have pF : ((b10, Blk.cells (RS.cells ⟨re, rn, rm, rss, true⟩) 31) :: (b6, Blk.cells rs0.cells 31) :: gvB gx :: knW τ g3 (ws.length + 1) c3 :: tbB τ.pr τ.mb τ.last :: kvB τ.mb L' τ.c :: flB τ.fr τ.fm τ.fc :: rmB τ.fm τ.R τ.rc :: (τ.tm, mapB (T'.map GE.kv) τ.tc) :: (memH τ.m τ.M ++ kZ L' τ.R T' (wiB g3 (ws ++ [(n : Int)]) ys :: E0))).Perm
          ((b10, Blk.cells (RS.cells ⟨re, rn, rm, rss, true⟩) 31) :: (b6, Blk.cells rs0.cells 31) :: gvB gx :: (g3, Blk.cells (ivs ws ++ [.int .i64 (n : Int)] ++ ys) 3) :: knW τ g3 (ws.length + 1) c3 :: tbB τ.pr τ.mb τ.last :: kvB τ.mb L' τ.c :: flB τ.fr τ.fm τ.fc :: rmB τ.fm τ.R τ.rc :: (τ.tm, mapB (τ.T.map GE.kv) τ.tc) :: (memH τ.m τ.M ++ (tkB t.b nt :: (prB L' ++ Z0)))) := by
        rw [e3, hZ0]
        show List.Perm (_ :: _ :: _ :: _ :: _ :: _ :: _ :: _ :: _ :: (memH τ.m τ.M ++ (prB L' ++ (blkG rowK τ.R ++ (blkG tkB T' ++ tkXs T' ([(g3, Blk.cells (ivs (ws ++ [(n : Int)]) ++ ys) 3)] ++ E0)))))) _
        rw [eW]
        classical
        refine List.perm_iff_count.2 fun x => ?_
        have q1 := q1'.count_eq x
        have q2 := q2''.count_eq x
        have q3 := (tkXs_E T' [(g3, Blk.cells (ivs ws ++ [.int .i64 (n : Int)] ++ ys) 3)] E0).count_eq x
        simp only [List.count_append, List.count_cons, List.count_nil, Nat.add_zero, Nat.zero_add] at q1 q2 q3 ⊢
        rw [q3, q1, q2]
        ac_rfl
      have hkn : knW τ g3 (ws.length + 1) c3 = (σ.k, Blk.cells [τ.m.ptr, ptrB τ.pr, ptrB τ.fr, ptrB τ.pi, ptrB τ.se, ptrB τ.qu, ptrB τ.sg, .map (some τ.tm), .slice (some ⟨g3, 0, none⟩) (τ.wn + 1) c3] 67) := by rw [← hk, hwn]
      subst hT' hL' hnt
      refine Sub.permL pF ?_
      rw [hkn]
      exact subT
  · rw [hQ1]
    rintro e l' ds' H' ⟨rfl, rfl, m, H2, hrn, sl, sh⟩
    apply thenQ_n
    refine W_weak sl sh ?_
    repeat (first | refine stepA ?_ | intro _)
    refine W_loop (fun _ : Nat × Hp => [(0, ptrB σ.k), (6, ptrB b6), (10, ptrB b10)]) (fun z => (b10, .cells rs.cells 31) :: (b6, .cells rs0.cells 31) :: z.2) (fun z => AgRuns σ.k (F rs) z.1 z.2) (fun z => z.1) (m, H2) hrn sublA subT ?_
    rintro ⟨m1, H3⟩ hrn1
    simp only at hrn1 ⊢
    repeat (first | refine stepA ?_ | intro _)
    refine callT ?_; refine ⟨_, _, hrn1.spec, _, cutT, ?_⟩
    rintro v H' (⟨rfl, hF⟩ | ⟨rfl, m2, hm2, hrn2⟩)
    · simp only [List.cons_append, List.nil_append]
      repeat (first | refine stepA ?_ | intro _)
      (first | refine retA ?_ | refine retB ?_)
      exact ⟨_, ⟨rs, rfl, hF⟩, subT⟩
    · simp only [List.cons_append, List.nil_append]
      repeat (first | refine stepA ?_ | intro _)
      exact ⟨rfl, (m2, H'), hrn2, hm2, sublA, subT⟩
end
end Go.Proofs.YtcpfmjlceoiofaaGreatDoor

/-
  Mail: what the deeds do, with the whole kernel around; a parent and a child.
-/
namespace Go.Proofs.YtcpfmjlceoiofaaGreatDoor
open Go.RowKit
attribute [local irreducible] W L QL PureOp thenQ blockQ retQ Spec IterOk YSpec roundQ scopeQ noGoQ
attribute [local irreducible] AS ASi IterOkC retD retE
set_option maxHeartbeats 12800000
set_option maxRecDepth 8000
theorem kH_app (σ : KS) (X E0 : Hp) : (kH { σ with E := X ++ E0 }).Perm (X ++ kH { σ with E := E0 }) := by
  show List.Perm (knB σ :: tbB σ.pr σ.mb σ.last :: kvB σ.mb σ.L σ.c :: flB σ.fr σ.fm σ.fc :: rmB σ.fm σ.R σ.rc :: tmB σ.tm σ.T σ.tc :: (memH σ.m σ.M ++ (prB σ.L ++ (blkG rowK σ.R ++ (blkG tkB σ.T ++ tkXs σ.T (X ++ E0))))))
    (X ++ (knB σ :: tbB σ.pr σ.mb σ.last :: kvB σ.mb σ.L σ.c :: flB σ.fr σ.fm σ.fc :: rmB σ.fm σ.R σ.rc :: tmB σ.tm σ.T σ.tc :: (memH σ.m σ.M ++ (prB σ.L ++ (blkG rowK σ.R ++ (blkG tkB σ.T ++ tkXs σ.T E0))))))
  classical
  refine List.perm_iff_count.2 fun x => ?_
  have q := (tkXs_E σ.T X E0).count_eq x
  simp only [List.count_append, List.count_cons] at q ⊢
  rw [q]
  ac_rfl
theorem tkXs_nil (T : List (GE TK)) (E : Hp) : tkXs T E = tkXs T [] ++ E := by simp [tkXs]
abbrev rstH (σ : KS) (ZT E0 : Hp) : Hp := tbB σ.pr σ.mb σ.last :: kvB σ.mb σ.L σ.c :: flB σ.fr σ.fm σ.fc :: rmB σ.fm σ.R σ.rc :: tmB σ.tm σ.T σ.tc :: (prB σ.L ++ (blkG rowK σ.R ++ (ZT ++ tkXs σ.T E0)))
theorem rcv_perm (σ : KS) (wb sq tb : Nat) (tv : TK) {ZT : Hp} (pT : (blkG tkB σ.T).Perm (tkB tb tv :: ZT)) (pid : Int) (x : CallV) (s : List UInt8) (q : ThV) (Hf Hq E0 : Hp) (hE : σ.E = Hf ++ (nmB σ.qu sq :: smK sq 0 q true smZ :: (Hq ++ E0))) :
    (wkD wb σ.k (ptrB tb) pid 0 0 x s :: kH σ).Perm (rcvH σ wb sq tb tv pid x s q σ.M Hq ++ rstH σ ZT (Hf ++ E0)) := by
  show List.Perm (wkD wb σ.k (ptrB tb) pid 0 0 x s :: knB σ :: tbB σ.pr σ.mb σ.last :: kvB σ.mb σ.L σ.c :: flB σ.fr σ.fm σ.fc :: rmB σ.fm σ.R σ.rc :: tmB σ.tm σ.T σ.tc :: (memH σ.m σ.M ++ (prB σ.L ++ (blkG rowK σ.R ++ (blkG tkB σ.T ++ tkXs σ.T σ.E))))) _
  rw [hE, tkXs_nil σ.T (Hf ++ _), rstH, tkXs_nil σ.T (Hf ++ E0)]
  classical
  refine List.perm_iff_count.2 fun y => ?_
  have q1 := pT.count_eq y
  simp only [List.cons_append, List.count_append, List.count_cons] at q1 ⊢
  rw [q1]
  ac_rfl
abbrev waitR : RS := ⟨0, 0, 0, [], true⟩
theorem Spec.told {f : FuncId} {args : List Value} {H : Hp} {A : Nat × Blk} {rs : RS} {τ : KS} (h : Spec Tryz.prog f args H fun v H' => v = .tuple #[rs.val, .nilIface] ∧ H' = A :: kH τ) :
    Spec Tryz.prog f args H fun v H' => ∃ u r0 Hg rs' σ', v = .tuple #[r0.val, u] ∧ TellsH rs' r0 u Hg ∧ (rs' = rs ∧ σ' = τ) ∧ H' = Hg ++ A :: kH σ' :=
  h.mono fun _ _ ⟨h1, h2⟩ => ⟨_, rs, [], rs, τ, h1, .inl ⟨rfl, rfl, rfl⟩, ⟨rfl, rfl⟩, h2⟩
section
variable (σ : KS)
theorem rcv_waitK (hM : WfM σ.M) (wb sq : Nat) (pid : Int) (x : CallV) (s : List UInt8) {t : GE TK} (ht : findG σ.T pid = some t) (a : Option Addr) (cap : Nat) (Hf Hq E0 : Hp) (how : oM a 0 cap [] Hq) (hE : σ.E = Hf ++ (nmB σ.qu sq :: smK sq 0 (thQ a 0 cap) true smZ :: (Hq ++ E0)))
    (hxa : x.a = 0) (hxc : x.c = 32) (hxd : x.d = 0) (hf : x.f = 0) (hc : checkC σ.M t.v.sp.root x.b 32 true = 0) :
    Spec Tryz.prog 69 [ptrB wb] (wkD wb σ.k t.ptr pid 0 0 x s :: kH σ) fun v H' => ∃ u r0 Hg rs σ', v = .tuple #[r0.val, u] ∧ TellsH rs r0 u Hg ∧ (rs = waitR ∧ σ' = σ) ∧ H' = Hg ++ wkD wb σ.k t.ptr pid 0 0 x s :: kH σ' := by
  obtain ⟨ZT, pT, -, -⟩ := blkG_at tkB ht
  obtain ⟨tb, tw, tk, tv⟩ := t
  simp only at pT hc
  have p := rcv_perm σ wb sq tb tv pT pid x s (thQ a 0 cap) Hf Hq E0 hE
  refine Spec.perm p (((kmsgrcv_wait σ hM wb sq tb tv pid x s a cap Hq how hxa hxc hxd hf hc).frame _).permR ?_)
  rintro v H1 ⟨H2, ⟨e, rfl, rfl⟩, rfl⟩
  exact ⟨_, ⟨_, rs0, [rfB e 0 true], waitR, σ, rfl, .inr ⟨e, 0, true, rfl, rfl, rfl⟩, ⟨rfl, rfl⟩, rfl⟩, List.Perm.cons _ p.symm⟩
theorem rcv_okK (hM : WfM σ.M) (wb sq : Nat) (pid : Int) (x : CallV) (s : List UInt8) {t : GE TK} (ht : findG σ.T pid = some t) (a : Option Addr) (cap : Nat) (m : MsgV) (Hf Hq E0 : Hp) (how : oM a 1 cap [m] Hq) (hE : σ.E = Hf ++ (nmB σ.qu sq :: smK sq 0 (thQ a 1 cap) true smZ :: (Hq ++ E0)))
    (hm : 1 ≤ m.t ∧ m.t ≤ 9223372036854775807) (hd : m.d.length ≤ 32) (b : Nat) (hxb : x.b = b) (hxa : x.a = 0) (hxc : x.c = 32) (hxd : x.d = 0) (hf : x.f = 0)
    (hc : checkC σ.M t.v.sp.root x.b 32 true = 0) (hcm : checkC σ.M t.v.sp.root (b : Int) (m.d.length : Int) true = 0) (h1 : b % 64 + m.d.length ≤ 64) (ha : b + m.d.length ≤ 16384) :
    Spec Tryz.prog 69 [ptrB wb] (wkD wb σ.k t.ptr pid 0 0 x s :: kH σ) fun v H' => ∃ u r0 Hg rs σ', v = .tuple #[r0.val, u] ∧ TellsH rs r0 u Hg ∧
      (rs = ⟨0, m.d.length, m.t, [], false⟩ ∧ ∃ a2 cap2 Hq2, oM a2 0 cap2 [] Hq2 ∧ σ' = { σ with M := (outM σ.M t.v.sp.root b m.d).2, E := Hf ++ (nmB σ.qu sq :: smK sq 0 (thQ a2 0 cap2) true smZ :: (Hq2 ++ E0)) }) ∧ H' = Hg ++ wkD wb σ.k t.ptr pid 0 0 x s :: kH σ' := by
  obtain ⟨ZT, pT, -, -⟩ := blkG_at tkB ht
  obtain ⟨tb, tw, tk, tv⟩ := t
  simp only at pT hc hcm
  have p := rcv_perm σ wb sq tb tv pT pid x s (thQ a 1 cap) Hf Hq E0 hE
  refine Spec.perm p (((kmsgrcv_ok σ hM wb sq tb tv pid x s a cap m Hq how hm hd b hxb hxa hxc hxd hf hc hcm h1 ha).frame _).permR ?_)
  rintro v H1 ⟨H2, ⟨rfl, a2, cap2, Hq2, how2, rfl⟩, rfl⟩
  exact ⟨_, ⟨_, ⟨0, m.d.length, m.t, [], false⟩, [], _, _, rfl, .inl ⟨rfl, rfl, rfl⟩, ⟨rfl, a2, cap2, Hq2, how2, rfl⟩, rfl⟩,
    (rcv_perm { σ with M := (outM σ.M tv.sp.root b m.d).2, E := Hf ++ (nmB σ.qu sq :: smK sq 0 (thQ a2 0 cap2) true smZ :: (Hq2 ++ E0)) } wb sq tb tv pT pid x s (thQ a2 0 cap2) Hf Hq2 E0 rfl).symm⟩
theorem snd_okK (wb sq : Nat) (tp : Value) (pid : Int) (x : CallV) (s : List UInt8) (a : Option Addr) (cap : Nat) (Hf Hq E0 : Hp) (how : oM a 0 cap [] Hq) (hE : σ.E = Hf ++ (nmB σ.qu sq :: smK sq 0 (thQ a 0 cap) true smZ :: (Hq ++ E0))) (hxa : x.a = 0) (hd : 1 ≤ x.d) (hs : s.length ≤ 32) :
    Spec Tryz.prog 68 [ptrB wb] (wkD wb σ.k tp pid 0 0 x s :: kH σ) fun v H' => ∃ u r0 Hg rs σ', v = .tuple #[r0.val, u] ∧ TellsH rs r0 u Hg ∧
      (rs = rs0 ∧ ∃ a2 cap2 Hq2, oM a2 1 cap2 [⟨x.d, s⟩] Hq2 ∧ σ' = { σ with E := Hf ++ (nmB σ.qu sq :: smK sq 0 (thQ a2 1 cap2) true smZ :: (Hq2 ++ E0)) }) ∧ H' = Hg ++ wkD wb σ.k tp pid 0 0 x s :: kH σ' := by
  obtain ⟨F, hF⟩ : ∃ F, F = tbB σ.pr σ.mb σ.last :: kvB σ.mb σ.L σ.c :: flB σ.fr σ.fm σ.fc :: rmB σ.fm σ.R σ.rc :: tmB σ.tm σ.T σ.tc :: (memH σ.m σ.M ++ (prB σ.L ++ (blkG rowK σ.R ++ (blkG tkB σ.T ++ (Hf ++ tkXs σ.T E0))))) := ⟨_, rfl⟩
  have p : ∀ (q : ThV) (Hr : Hp), (wkD wb σ.k tp pid 0 0 x s :: kH { σ with E := Hf ++ (nmB σ.qu sq :: smK sq 0 q true smZ :: (Hr ++ E0)) }).Perm ((wkD wb σ.k tp pid 0 0 x s :: knB σ :: nmB σ.qu sq :: smK sq 0 q true smZ :: Hr) ++ F) := fun q Hr => by
    rw [hF]
    show List.Perm (wkD wb σ.k tp pid 0 0 x s :: knB σ :: tbB σ.pr σ.mb σ.last :: kvB σ.mb σ.L σ.c :: flB σ.fr σ.fm σ.fc :: rmB σ.fm σ.R σ.rc :: tmB σ.tm σ.T σ.tc :: (memH σ.m σ.M ++ (prB σ.L ++ (blkG rowK σ.R ++ (blkG tkB σ.T ++ tkXs σ.T (Hf ++ (nmB σ.qu sq :: smK sq 0 q true smZ :: (Hr ++ E0)))))))) _
    rw [tkXs_nil σ.T (Hf ++ _), tkXs_nil σ.T E0]
    simp only [List.cons_append]
    exact permA
  have e : kH σ = kH { σ with E := Hf ++ (nmB σ.qu sq :: smK sq 0 (thQ a 0 cap) true smZ :: (Hq ++ E0)) } := by rw [← hE]
  rw [e]
  refine Spec.perm (p _ Hq) (((kmsgsnd_spec σ wb sq tp pid x s a cap Hq how hxa hd hs).frame F).permR ?_)
  rintro v H1 ⟨H2, ⟨rfl, a2, cap2, Hq2, how2, rfl⟩, rfl⟩
  exact ⟨_, ⟨_, rs0, [], _, _, rfl, .inl ⟨rfl, rfl, rfl⟩, ⟨rfl, a2, cap2, Hq2, how2, rfl⟩, rfl⟩, (p _ Hq2).symm⟩
end
end Go.Proofs.YtcpfmjlceoiofaaGreatDoor

/-
  Mail: the state between the steps; what again does there; the steps.
-/
namespace Go.Proofs.YtcpfmjlceoiofaaGreatDoor
open Go.RowKit
attribute [local irreducible] W L QL PureOp thenQ blockQ retQ Spec IterOk YSpec roundQ scopeQ noGoQ
attribute [local irreducible] AS ASi IterOkC retD retE
set_option maxHeartbeats 12800000
set_option maxRecDepth 8000
abbrev kidA : PR := ⟨2, 1, 1, 0, 0, [], 0, false⟩
abbrev kidS : PR := asleepP kidA (chanOf 2)
abbrev LM (b b1 w1 : Nat) (x : PR) : List PE := [⟨b, 0, newP⟩, ⟨b1, w1, x⟩]
abbrev q1 : SpM := { q0 with root := r1 }
abbrev rcvC : CallV := ⟨20, 0, 0, 0, 32, 0, []⟩
abbrev stoC (s : List UInt8) : CallV := ⟨9, 0, 10, 0, 0, 0, s⟩
abbrev sndC (n d : Int) : CallV := ⟨19, 0, 0, 10, n, d, []⟩
abbrev loaC (n : Int) : CallV := ⟨8, 0, 0, n, 0, 0, []⟩
/-- the state between two steps: what the data pages hold, what the queue holds, who waits -/
structure Mail (σ : KS) (k b b1 w1 : Nat) (ws : List Int) (Hw : Hp) (c1 c2 : List UInt8) (l : List MsgV) (p2 : PR) (r2 : RS) : Prop where
  k : σ.k = k
  M : σ.M = memX c1 c2
  n1 : c1.length = 64
  n2 : c2.length = 64
  L : σ.L = LM b b1 w1 p2
  Lw : WfP σ.L σ.last σ.c
  t1 : ∃ t, findG σ.T 1 = some t ∧ t.v.sp = q0
  t2 : ∃ t, findG σ.T 2 = some t ∧ t.v.sp = q1 ∧ t.v.r = r2 ∧ (ws ≠ [] → t.v.c = rcvC ∧ t.v.da = [])
  E : ∃ sq a cap Hq E0, oM a l.length cap l Hq ∧ σ.E = nmB σ.qu sq :: smK sq 0 (thQ a l.length cap) true smZ :: (Hq ++ E0)
  W : Own 3 1 σ.wa ws.length σ.wc (ivs ws) Hw
  wn : σ.wn = ws.length
theorem Mail.wf {σ : KS} {k b b1 w1 : Nat} {ws : List Int} {Hw : Hp} {c1 c2 : List UInt8} {l : List MsgV} {p2 : PR} {r2 : RS} (h : Mail σ k b b1 w1 ws Hw c1 c2 l p2 r2) : WfM σ.M := by rw [h.M]; exact memX_wf h.n1 h.n2
abbrev mH (gx : Nat × Nat × Nat) (Hw : Hp) (σ : KS) : Hp := gvB gx :: (Hw ++ kH σ)
/-- the same, with what waits among what else lies there -/
theorem mH_perm (gx : Nat × Nat × Nat) (Hw : Hp) (σ : KS) : (mH gx Hw σ).Perm (gvB gx :: kH { σ with E := Hw ++ σ.E }) := List.Perm.cons _ (kH_app σ Hw σ.E).symm
theorem ag_zero (gx : Nat × Nat × Nat) (Hw : Hp) {σ : KS} (h : σ.wn = 0) : AgRuns σ.k (fun H => H = mH gx Hw σ) 0 (mH gx Hw σ) := by
  have p : (mH gx Hw σ).Perm ([knB σ] ++ (gvB gx :: (Hw ++ kHo σ))) := by
    show List.Perm (gvB gx :: (Hw ++ (knB σ :: kHo σ))) _
    simp only [List.cons_append, List.nil_append]
    exact permA
  refine Spec.perm p (((again_none σ h).frame _).permR ?_)
  rintro v H1 ⟨H2, ⟨rfl, rfl⟩, rfl⟩
  exact ⟨_, ⟨rfl, rfl⟩, p.symm⟩
theorem sel_rcv (wb : Nat) (Ls : List KV) (h : getL Ls 1 = some (deedV 50 wb) ∧ getL Ls 8 = some (deedV 57 wb) ∧ getL Ls 9 = some (deedV 58 wb) ∧
      getL Ls 18 = some (deedV 67 wb) ∧ getL Ls 19 = some (deedV 68 wb) ∧ getL Ls 20 = some (deedV 69 wb)) : getL Ls 20 = some (deedV 69 wb) := h.2.2.2.2.2
section
variable {σ : KS} {k b b1 w1 : Nat} {Hw : Hp} {c1 c2 : List UInt8} {r2 : RS}
theorem own_one {a : Option Addr} {c : Nat} (h : Own 3 1 a ([(2 : Int)] : List Int).length c (ivs [2]) Hw) : ∃ g ys, a = some ⟨g, 0, none⟩ ∧ Hw = [wiB g [((2 : Nat) : Int)] ys] := by
  rcases h.inv with ⟨-, h0, -⟩ | ⟨g, ys, h1, h2, -⟩
  · cases h0
  · exact ⟨g, ys, h1, h2⟩
theorem back_kid : setP (mapP (LM b b1 w1 kidS) (rouseP (chanOf 2))) ((2 : Nat) : Int) (asleepP (wokeP kidS) (chanOf 2)) = LM b b1 w1 kidS := rfl
theorem ag_wait (gx : Nat × Nat × Nat) (h : Mail σ k b b1 w1 [2] Hw c1 c2 [] kidS r2) : AgRuns σ.k (fun H => H = mH gx Hw σ) 0 (mH gx Hw σ) := by
  obtain ⟨g, ys, hwa, rfl⟩ := own_one h.W
  obtain ⟨t, ht, hsp, -, hc⟩ := h.t2
  obtain ⟨hc1, hc2⟩ := hc (by simp)
  obtain ⟨sq, a, cap, Hq, E0, how, hE⟩ := h.E
  have hp : findP σ.L ((2 : Nat) : Int) = some ⟨b1, w1, kidS⟩ := by rw [h.L]; rfl
  have inst : FnOk Tryz.prog 69 := inferInstance
  have hA := again_one σ gx g 2 (by decide) ys hwa h.wn hp ht rfl rfl h.Lw 69 inst (fun wb Ls hh => by rw [hc1]; exact sel_rcv wb Ls hh) (by rw [h.L]; exact back_kid) True (fun _ _ => False)
    (fun wb => by
      rw [hc1, hc2]
      refine (rcv_waitK (wokeK σ 2) h.wf wb sq ((2 : Nat) : Int) rcvC [] (t := t) ht a cap [] Hq E0 how hE rfl rfl rfl rfl ?_).mono ?_
      · rw [hsp]
        show checkC σ.M r1 ((0 : Nat) : Int) ((32 : Nat) : Int) true = 0
        rw [h.M]
        exact checkC_in (refsX2 c1 c2) (walkX2 c1 c2) 0 32 (by decide) true
      · rintro v H' ⟨u, r0, Hg, rs, σ', h1, h2, h3, h4⟩
        exact ⟨u, r0, Hg, rs, σ', h1, h2, .inl ⟨trivial, h3⟩, h4⟩)
    (fun _ _ hh => hh.elim)
  refine hA.mono ?_
  rintro v H' (⟨rfl, -, rfl⟩ | ⟨-, rs, σ', t', g2, c2', ys2, hh, -⟩)
  · exact ⟨rfl, rfl⟩
  · exact hh.elim
theorem ag_done (gx : Nat × Nat × Nat) {m : MsgV} (h : Mail σ k b b1 w1 [2] Hw c1 c2 [m] kidS r2) (hm : 1 ≤ m.t ∧ m.t ≤ 9223372036854775807) (hd : m.d.length ≤ 32) :
    AgRuns σ.k (fun H => ∃ σ' Hw', Mail σ' k b b1 w1 [] Hw' c1 (overw c2 0 m.d) [] kidA ⟨0, m.d.length, m.t, [], false⟩ ∧ H = mH gx Hw' σ') 1 (mH gx Hw σ) := by
  obtain ⟨g, ys, hwa, rfl⟩ := own_one h.W
  obtain ⟨t, ht, hsp, -, hc⟩ := h.t2
  obtain ⟨hc1, hc2⟩ := hc (by simp)
  obtain ⟨sq, a, cap, Hq, E0, how, hE⟩ := h.E
  have hp : findP σ.L ((2 : Nat) : Int) = some ⟨b1, w1, kidS⟩ := by rw [h.L]; rfl
  have inst : FnOk Tryz.prog 69 := inferInstance
  have hA := again_one σ gx g 2 (by decide) ys hwa h.wn hp ht rfl rfl h.Lw 69 inst (fun wb Ls hh => by rw [hc1]; exact sel_rcv wb Ls hh) (by rw [h.L]; exact back_kid) False
    (fun rs τ => rs = ⟨0, m.d.length, m.t, [], false⟩ ∧ ∃ a2 cap2 Hq2, oM a2 0 cap2 [] Hq2 ∧ τ = { wokeK σ 2 with M := (outM σ.M t.v.sp.root 0 m.d).2, E := nmB σ.qu sq :: smK sq 0 (thQ a2 0 cap2) true smZ :: (Hq2 ++ E0) })
    (fun wb => by
      rw [hc1, hc2]
      refine (rcv_okK (wokeK σ 2) h.wf wb sq ((2 : Nat) : Int) rcvC [] (t := t) ht a cap m [] Hq E0 how hE hm hd 0 rfl rfl rfl rfl rfl ?_ ?_ (by omega) (by omega)).mono ?_
      · rw [hsp]
        show checkC σ.M r1 ((0 : Nat) : Int) ((32 : Nat) : Int) true = 0
        rw [h.M]
        exact checkC_in (refsX2 c1 c2) (walkX2 c1 c2) 0 32 (by decide) true
      · rw [hsp]
        show checkC σ.M r1 ((0 : Nat) : Int) (m.d.length : Int) true = 0
        rw [h.M]
        exact checkC_in (refsX2 c1 c2) (walkX2 c1 c2) 0 m.d.length (by omega) true
      · rintro v H' ⟨u, r0, Hg, rs, σ', h1, h2, h3, h4⟩
        exact ⟨u, r0, Hg, rs, σ', h1, h2, .inr h3, h4⟩)
    (by
      rintro rs τ ⟨rfl, a2, cap2, Hq2, -, rfl⟩
      exact ⟨rfl, rfl, rfl, t, ht, rfl⟩)
  refine hA.mono ?_
  rintro v H' (⟨-, hF, -⟩ | ⟨rfl, rs, τ, t', g2, cc, ys2, ⟨rfl, a2, cap2, Hq2, how2, rfl⟩, ht', -, ⟨hq1, hq2⟩, rfl⟩)
  · exact hF.elim
  obtain rfl : t' = t := Option.some.inj (ht'.symm.trans ht)
  refine .inr ⟨rfl, ?_⟩
  obtain ⟨τ, hτ⟩ : ∃ τ, τ = doneK { wokeK σ 2 with M := (outM σ.M t'.v.sp.root 0 m.d).2, E := nmB σ.qu sq :: smK sq 0 (thQ a2 0 cap2) true smZ :: (Hq2 ++ E0) } ((2 : Nat) : Int) t' ⟨0, m.d.length, m.t, [], false⟩ g2 cc := ⟨_, rfl⟩
  rw [← hτ]
  have hmail : Mail τ k b b1 w1 [] [wiB g2 [] ys2] c1 (overw c2 0 m.d) [] kidA ⟨0, m.d.length, m.t, [], false⟩ := by
    subst hτ
    refine ⟨h.k, ?_, h.n1, overw_len h.n2 (by omega), ?_, ?_, ?_, ?_, ⟨sq, a2, cap2, Hq2, E0, how2, rfl⟩, Own.blk (n := 0) (xs := []) rfl hq1 (Nat.zero_le _) hq2, rfl⟩
    · show (outM σ.M t'.v.sp.root 0 m.d).2 = _
      rw [hsp, h.M]
      show (outM (memX c1 c2) r1 0 m.d).2 = _
      rw [outX2 c1 c2 0 m.d (by omega) (by decide)]
    · show mapP σ.L (rouseP (chanOf 2)) = _
      rw [h.L]
      rfl
    · show WfP (mapP σ.L (rouseP (chanOf 2))) σ.last σ.c
      exact h.Lw.map (rouse_pid _)
    · obtain ⟨t0, h0, h1⟩ := h.t1
      refine ⟨t0, ?_, h1⟩
      show findG (setG σ.T 2 _) 1 = _
      rw [findG_set ht, if_neg (by decide)]
      exact h0
    · refine ⟨{ t' with v := { t'.v with r := ⟨0, m.d.length, m.t, [], false⟩ } }, ?_, ?_, rfl, fun hh => absurd rfl hh⟩
      · show findG (setG σ.T 2 _) 2 = _
        rw [findG_set ht, if_pos rfl]
      · exact hsp
  have hz := ag_zero gx [wiB g2 [] ys2] (σ := τ) (by rw [hτ])
  rw [show τ.k = σ.k by rw [hτ]] at hz
  exact hz.mono fun v H' ⟨h1, h2⟩ => ⟨h1, τ, _, hmail, h2⟩
end
end Go.Proofs.YtcpfmjlceoiofaaGreatDoor

/-
  Mail: the steps.
-/
namespace Go.Proofs.YtcpfmjlceoiofaaGreatDoor
open Go.RowKit
attribute [local irreducible] W L QL PureOp thenQ blockQ retQ Spec IterOk YSpec roundQ scopeQ noGoQ
attribute [local irreducible] AS ASi IterOkC retD retE
set_option maxHeartbeats 12800000
set_option maxRecDepth 8000
theorem AgRuns.mono {k : Nat} {F F' : Hp → Prop} (hF : ∀ H, F H → F' H) : ∀ {m : Nat} {H : Hp}, AgRuns k F m H → AgRuns k F' m H
  | 0, _, h => Spec.mono h fun _ _ ⟨q1, q2⟩ => ⟨q1, hF _ q2⟩
  | m + 1, _, h => Spec.mono h fun _ _ q => q.imp (fun ⟨q1, q2⟩ => ⟨q1, hF _ q2⟩) (fun ⟨q1, q2⟩ => ⟨q1, AgRuns.mono hF q2⟩)
section
variable {σ : KS} {k b b1 w1 : Nat} {ws : List Int} {Hw : Hp} {c1 c2 : List UInt8} {l : List MsgV} {p2 : PR} {r2 : RS}
theorem mail_go (gx : Nat × Nat × Nat) (h : Mail σ k b b1 w1 ws Hw c1 c2 l p2 r2) (pid : Int) (x : CallV) {p : PE} {t : GE TK} (hp : findP σ.L pid = some p) (hrun : p.p.state = 1) (ht : findG σ.T pid = some t) (hr : RightP x) (s : List UInt8)
    (hrd : ∀ wb, Spec Tryz.prog 25 [ptrB wb] (wkK wb σ.k t.ptr pid p.p.uid p.p.gid x :: kH { σ with E := Hw ++ σ.E }) fun v H' => v = .nilIface ∧ H' = wkD wb σ.k t.ptr pid p.p.uid p.p.gid x s :: kH { σ with E := Hw ++ σ.E })
    (f : FuncId) (inst : FnOk Tryz.prog f)
    (hsel : ∀ wb Ls, getL Ls 1 = some (deedV 50 wb) ∧ getL Ls 8 = some (deedV 57 wb) ∧ getL Ls 9 = some (deedV 58 wb) ∧
      getL Ls 18 = some (deedV 67 wb) ∧ getL Ls 19 = some (deedV 68 wb) ∧ getL Ls 20 = some (deedV 69 wb) → getL Ls x.no = some (deedV f wb))
    (rx : RS) (hw : rx.w = false) (P : KS → Prop)
    (hd : ∀ wb, Spec Tryz.prog f [ptrB wb] (wkD wb σ.k t.ptr pid p.p.uid p.p.gid x s :: kH { σ with E := Hw ++ σ.E }) fun v H' => ∃ u r0 Hg rs σ', v = .tuple #[r0.val, u] ∧ TellsH rs r0 u Hg ∧ (rs = rx ∧ P σ') ∧ H' = Hg ++ wkD wb σ.k t.ptr pid p.p.uid p.p.gid x s :: kH σ')
    (hP : ∀ τ, P τ → τ.k = σ.k ∧ findG τ.T pid = some t) (F : Hp → Prop) (hF : ∀ τ, P τ → ∃ m, AgRuns σ.k F m (gvB gx :: kH (setR τ pid t rx))) :
    Spec Tryz.prog 11 [ptrB k, .int .i64 pid, .agg x.cells.toArray] (mH gx Hw σ) fun v H' => v = rx.val ∧ F H' := by
  rw [← h.k]
  refine Spec.perm (mH_perm gx Hw σ) ((step_all { σ with E := Hw ++ σ.E } gx pid x hp hrun ht hr s hrd f inst hsel (fun rs τ => rs = rx ∧ P τ) hd ?_ (fun rs H => rs = rx ∧ F H) ?_ ?_).mono ?_)
  · rintro rs τ ⟨rfl, h1⟩
    exact ⟨(hP τ h1).1, t, (hP τ h1).2, rfl⟩
  · rintro rs τ t' ⟨rfl, h1⟩ - ht' -
    obtain rfl : t' = t := Option.some.inj (ht'.symm.trans (hP τ h1).2)
    obtain ⟨m, hm⟩ := hF τ h1
    exact ⟨m, hm.mono fun H q => ⟨rfl, q⟩⟩
  · rintro rs τ t' ⟨rfl, h1⟩ h2
    rw [hw] at h2
    cases h2
  · rintro v H' ⟨rs, rfl, rfl, h2⟩
    exact ⟨rfl, h2⟩
theorem reads_no (σ : KS) (wb : Nat) (tp : Value) (pid uid gid : Int) (x : CallV) (h1 : x.no ≠ 12) (h2 : x.no ≠ 16) (h3 : x.no ≠ 19) :
    Spec Tryz.prog 25 [ptrB wb] (wkK wb σ.k tp pid uid gid x :: kH σ) fun v H' => v = .nilIface ∧ H' = wkD wb σ.k tp pid uid gid x [] :: kH σ :=
  (reads_none wb σ.k tp pid uid gid x h1 h2 h3).frameQ (kH σ)
theorem rightS {no a b c d : Int} {s : List UInt8} (h : (1 ≤ no ∧ no ≤ 25) ∧ Sh a ∧ Sh b ∧ Sh c ∧ Sh d) (hs : s.length ≤ 600) : RightP ⟨no, 0, a, b, c, d, s⟩ :=
  (rightP_iff _).2 ⟨h.1, by show (0 : Int) ≤ 0 ∧ (0 : Int) ≤ 255; decide, h.2.1, h.2.2.1, h.2.2.2.1, h.2.2.2.2, hs⟩
/-- what waits goes on waiting -/
theorem ag_still (gx : Nat × Nat × Nat) (h : Mail σ k b b1 w1 ws Hw c1 c2 l p2 r2) (hws : ws = [] ∨ (ws = [2] ∧ l = [] ∧ p2 = kidS)) : AgRuns σ.k (fun H => H = mH gx Hw σ) 0 (mH gx Hw σ) := by
  rcases hws with rfl | ⟨rfl, rfl, rfl⟩
  · exact ag_zero gx Hw h.wn
  · exact ag_wait gx h
theorem mail_store (gx : Nat × Nat × Nat) (h : Mail σ k b b1 w1 ws Hw c1 c2 l p2 r2) (hws : ws = [] ∨ (ws = [2] ∧ l = [] ∧ p2 = kidS)) (s : List UInt8) (hs : s.length ≤ 32) :
    Spec Tryz.prog 11 [ptrB k, .int .i64 1, .agg (stoC s).cells.toArray] (mH gx Hw σ) fun v H' => v = rs0.val ∧ ∃ σ', Mail σ' k b b1 w1 ws Hw (overw c1 10 s) c2 l p2 r2 ∧ H' = mH gx Hw σ' := by
  obtain ⟨t, ht, hsp⟩ := h.t1
  have inst : FnOk Tryz.prog 58 := inferInstance
  have hp : findP σ.L 1 = some ⟨b, 0, newP⟩ := by rw [h.L]; rfl
  have hc : checkC σ.M t.v.sp.root ((10 : Nat) : Int) (s.length : Int) true = 0 := by rw [hsp, h.M]; exact checkC_in (refsX1 c1 c2) (walkX1 c1 c2) 10 s.length (by omega) true
  have ho : outM σ.M t.v.sp.root 10 s = (0, memX (overw c1 10 s) c2) := by rw [hsp, h.M]; exact outX1 c1 c2 10 s (by omega) (by decide)
  refine mail_go gx h 1 (stoC s) hp rfl ht (rightS (by decide) (by omega)) [] (fun wb => reads_no { σ with E := Hw ++ σ.E } wb t.ptr 1 0 0 (stoC s) (by show (9 : Int) ≠ 12; decide) (by show (9 : Int) ≠ 16; decide) (by show (9 : Int) ≠ 19; decide)) _ inst (fun wb Ls hh => hh.2.2.1) rs0 rfl
    (fun τ => τ = { σ with E := Hw ++ σ.E, M := (outM σ.M t.v.sp.root 10 s).2 })
    (fun wb => (kstore_spec { σ with E := Hw ++ σ.E } h.wf wb 0 0 1 (stoC s) ht 10 rfl hc (by show 10 % 64 + s.length ≤ 64; omega) (by show 10 + s.length ≤ 16384; omega) (by show (outM σ.M t.v.sp.root 10 s).1 = 0; rw [ho])).told)
    (fun τ e => by subst e; exact ⟨rfl, ht⟩) _ ?_
  rintro τ rfl
  obtain ⟨τ, hτ⟩ : ∃ τ, τ = setR { σ with M := (outM σ.M t.v.sp.root 10 s).2 } 1 t rs0 := ⟨_, rfl⟩
  have hm : Mail τ k b b1 w1 ws Hw (overw c1 10 s) c2 l p2 r2 := by
    subst hτ
    refine ⟨h.k, by show (outM σ.M t.v.sp.root 10 s).2 = _; rw [ho], overw_len h.n1 (by omega), h.n2, h.L, h.Lw, ⟨{ t with v := { t.v with r := rs0 } }, ?_, hsp⟩, ?_, h.E, h.W, h.wn⟩
    · show findG (setG σ.T 1 _) 1 = _
      rw [findG_set ht, if_pos rfl]
    · obtain ⟨t2, h1, h2⟩ := h.t2
      refine ⟨t2, ?_, h2⟩
      show findG (setG σ.T 1 _) 2 = _
      rw [findG_set ht, if_neg (by decide)]
      exact h1
  have hk : τ.k = σ.k := by rw [hτ]
  refine ⟨0, AgRuns.perm (H2 := mH gx Hw τ) ?_ ?_⟩
  · subst hτ
    exact List.Perm.cons _ (kH_app (setR { σ with M := (outM σ.M t.v.sp.root 10 s).2 } 1 t rs0) Hw σ.E)
  · rw [← hk]
    exact (ag_still gx hm hws).mono fun H e => ⟨τ, hm, e⟩
theorem mail_snd (gx : Nat × Nat × Nat) (h : Mail σ k b b1 w1 ws Hw c1 c2 [] p2 r2) (n : Nat) (d : Int) (hn : n ≤ 32) (hd : 1 ≤ d ∧ d ≤ 32767) (F : Hp → Prop)
    (hF : ∀ τ, τ.k = σ.k → Mail τ k b b1 w1 ws Hw c1 c2 [⟨d, (c1.drop 10).take n⟩] p2 r2 → ∃ m, AgRuns τ.k F m (mH gx Hw τ)) :
    Spec Tryz.prog 11 [ptrB k, .int .i64 1, .agg (sndC n d).cells.toArray] (mH gx Hw σ) fun v H' => v = rs0.val ∧ F H' := by
  obtain ⟨t, ht, hsp⟩ := h.t1
  obtain ⟨sq, a, cap, Hq, E0, how, hE⟩ := h.E
  have inst : FnOk Tryz.prog 68 := inferInstance
  have hp : findP σ.L 1 = some ⟨b, 0, newP⟩ := by rw [h.L]; rfl
  have hc : checkC σ.M t.v.sp.root ((10 : Nat) : Int) (n : Int) false = 0 := by rw [hsp, h.M]; exact checkC_in (refsX1 c1 c2) (walkX1 c1 c2) 10 n (by omega) false
  have hi : inM σ.M t.v.sp.root 10 n = ((c1.drop 10).take n, 0) := by rw [hsp, h.M]; exact inX1 c1 c2 10 n (by omega) (by decide)
  have hl : (inM σ.M t.v.sp.root 10 n).1.length ≤ 32 := by rw [hi]; simp; omega
  refine mail_go gx h 1 (sndC n d) hp rfl ht (rightS ⟨by decide, by decide, by decide, ⟨by omega, by omega⟩, ⟨by omega, by omega⟩⟩ (by decide)) (inM σ.M t.v.sp.root 10 n).1
    (fun wb => reads_snd { σ with E := Hw ++ σ.E } h.wf wb 0 0 1 (sndC n d) ht 10 n rfl rfl rfl hn hd.1 hc (by omega) (by omega) (by show (inM σ.M t.v.sp.root 10 n).2 = 0; rw [hi])) _ inst (fun wb Ls hh => hh.2.2.2.2.1) rs0 rfl
    (fun τ => ∃ a2 cap2 Hq2, oM a2 1 cap2 [⟨d, (inM σ.M t.v.sp.root 10 n).1⟩] Hq2 ∧ τ = { σ with E := Hw ++ (nmB σ.qu sq :: smK sq 0 (thQ a2 1 cap2) true smZ :: (Hq2 ++ E0)) })
    (fun wb => snd_okK { σ with E := Hw ++ σ.E } wb sq t.ptr 1 (sndC n d) _ a cap Hw Hq E0 how (by show Hw ++ σ.E = _; rw [hE]; rfl) rfl hd.1 hl)
    (fun τ e => by obtain ⟨a2, cap2, Hq2, -, rfl⟩ := e; exact ⟨rfl, ht⟩) _ ?_
  rintro τ ⟨a2, cap2, Hq2, how2, rfl⟩
  obtain ⟨τ, hτ⟩ : ∃ τ, τ = setR { σ with E := nmB σ.qu sq :: smK sq 0 (thQ a2 1 cap2) true smZ :: (Hq2 ++ E0) } 1 t rs0 := ⟨_, rfl⟩
  have hm : Mail τ k b b1 w1 ws Hw c1 c2 [⟨d, (c1.drop 10).take n⟩] p2 r2 := by
    subst hτ
    rw [hi] at how2
    refine ⟨h.k, h.M, h.n1, h.n2, h.L, h.Lw, ⟨{ t with v := { t.v with r := rs0 } }, ?_, hsp⟩, ?_, ⟨sq, a2, cap2, Hq2, E0, how2, rfl⟩, h.W, h.wn⟩
    · show findG (setG σ.T 1 _) 1 = _
      rw [findG_set ht, if_pos rfl]
    · obtain ⟨t2, h1, h2⟩ := h.t2
      refine ⟨t2, ?_, h2⟩
      show findG (setG σ.T 1 _) 2 = _
      rw [findG_set ht, if_neg (by decide)]
      exact h1
  have hk : τ.k = σ.k := by rw [hτ]
  obtain ⟨m, hr⟩ := hF τ hk hm
  rw [hk] at hr
  refine ⟨m, AgRuns.perm (H2 := mH gx Hw τ) ?_ hr⟩
  subst hτ
  exact List.Perm.cons _ (kH_app (setR { σ with E := nmB σ.qu sq :: smK sq 0 (thQ a2 1 cap2) true smZ :: (Hq2 ++ E0) } 1 t rs0) Hw _)
theorem mail_load (gx : Nat × Nat × Nat) (h : Mail σ k b b1 w1 [] Hw c1 c2 l kidA r2) (n : Nat) (hn : n ≤ 32) :
    Spec Tryz.prog 11 [ptrB k, .int .i64 2, .agg (loaC n).cells.toArray] (mH gx Hw σ) fun v H' => v = RS.val ⟨0, 0, 0, c2.take n, false⟩ ∧ ∃ σ', Mail σ' k b b1 w1 [] Hw c1 c2 l kidA ⟨0, 0, 0, c2.take n, false⟩ ∧ H' = mH gx Hw σ' := by
  obtain ⟨t, ht, hsp, -, -⟩ := h.t2
  have inst : FnOk Tryz.prog 57 := inferInstance
  have hp : findP σ.L 2 = some ⟨b1, w1, kidA⟩ := by rw [h.L]; rfl
  have hc : checkC σ.M t.v.sp.root ((0 : Nat) : Int) (n : Int) false = 0 := by rw [hsp, h.M]; exact checkC_in (refsX2 c1 c2) (walkX2 c1 c2) 0 n (by omega) false
  have hi : inM σ.M t.v.sp.root 0 n = (c2.take n, 0) := by rw [hsp, h.M]; exact inX2 c1 c2 0 n (by omega) (by decide)
  have hld := fun wb => (kload_spec { σ with E := Hw ++ σ.E } h.wf wb 0 0 2 (loaC n) ht 0 n rfl rfl hc (by omega) (by omega) (by show (inM σ.M t.v.sp.root 0 n).2 = 0; rw [hi])).told
  have e : c2.take n = (inM σ.M t.v.sp.root 0 n).1 := by rw [hi]
  rw [e]
  refine mail_go gx h 2 (loaC n) hp rfl ht (rightS ⟨by decide, by decide, ⟨by omega, by omega⟩, by decide, by decide⟩ (by decide)) [] (fun wb => reads_no { σ with E := Hw ++ σ.E } wb t.ptr 2 0 0 (loaC n) (by show (8 : Int) ≠ 12; decide) (by show (8 : Int) ≠ 16; decide) (by show (8 : Int) ≠ 19; decide)) _ inst (fun wb Ls hh => hh.2.1) ⟨0, 0, 0, (inM σ.M t.v.sp.root 0 n).1, false⟩ rfl
    (fun τ => τ = { σ with E := Hw ++ σ.E }) hld (fun τ e => by subst e; exact ⟨rfl, ht⟩) _ ?_
  rintro τ rfl
  obtain ⟨τ, hτ⟩ : ∃ τ, τ = setR σ 2 t ⟨0, 0, 0, (inM σ.M t.v.sp.root 0 n).1, false⟩ := ⟨_, rfl⟩
  have hm : Mail τ k b b1 w1 [] Hw c1 c2 l kidA ⟨0, 0, 0, (inM σ.M t.v.sp.root 0 n).1, false⟩ := by
    subst hτ
    refine ⟨h.k, h.M, h.n1, h.n2, h.L, h.Lw, ?_, ⟨{ t with v := { t.v with r := ⟨0, 0, 0, (inM σ.M t.v.sp.root 0 n).1, false⟩ } }, ?_, hsp, rfl, fun hh => absurd rfl hh⟩, h.E, h.W, h.wn⟩
    · obtain ⟨t1, h1, h2⟩ := h.t1
      refine ⟨t1, ?_, h2⟩
      show findG (setG σ.T 2 _) 1 = _
      rw [findG_set ht, if_neg (by decide)]
      exact h1
    · show findG (setG σ.T 2 _) 2 = _
      rw [findG_set ht, if_pos rfl]
  have hk : τ.k = σ.k := by rw [hτ]
  refine ⟨0, AgRuns.perm (H2 := mH gx Hw τ) ?_ ?_⟩
  · subst hτ
    exact List.Perm.cons _ (kH_app (setR σ 2 t ⟨0, 0, 0, (inM σ.M t.v.sp.root 0 n).1, false⟩) Hw σ.E)
  · rw [← hk]
    exact (ag_zero gx Hw hm.wn).mono fun H e => ⟨τ, hm, e⟩
theorem mail_rcv (gx : Nat × Nat × Nat) {m : MsgV} (h : Mail σ k b b1 w1 [] Hw c1 c2 [m] kidA r2) (hm : 1 ≤ m.t ∧ m.t ≤ 9223372036854775807) (hd : m.d.length ≤ 32) :
    Spec Tryz.prog 11 [ptrB k, .int .i64 2, .agg rcvC.cells.toArray] (mH gx Hw σ) fun v H' => v = RS.val ⟨0, m.d.length, m.t, [], false⟩ ∧ ∃ σ', Mail σ' k b b1 w1 [] Hw c1 (overw c2 0 m.d) [] kidA ⟨0, m.d.length, m.t, [], false⟩ ∧ H' = mH gx Hw σ' := by
  obtain ⟨t, ht, hsp, -, -⟩ := h.t2
  obtain ⟨sq, a, cap, Hq, E0, how, hE⟩ := h.E
  have inst : FnOk Tryz.prog 69 := inferInstance
  have hp : findP σ.L 2 = some ⟨b1, w1, kidA⟩ := by rw [h.L]; rfl
  have hc : ∀ n : Nat, n ≤ 32 → checkC σ.M t.v.sp.root ((0 : Nat) : Int) (n : Int) true = 0 := fun n hn => by rw [hsp, h.M]; exact checkC_in (refsX2 c1 c2) (walkX2 c1 c2) 0 n (by omega) true
  have ho : outM σ.M t.v.sp.root 0 m.d = (0, memX c1 (overw c2 0 m.d)) := by rw [hsp, h.M]; exact outX2 c1 c2 0 m.d (by omega) (by decide)
  refine mail_go gx h 2 rcvC hp rfl ht (rightS (by decide) (by decide)) [] (fun wb => reads_no { σ with E := Hw ++ σ.E } wb t.ptr 2 0 0 rcvC (by decide) (by decide) (by decide)) _ inst sel_rcv ⟨0, m.d.length, m.t, [], false⟩ rfl
    (fun τ => ∃ a2 cap2 Hq2, oM a2 0 cap2 [] Hq2 ∧ τ = { σ with M := (outM σ.M t.v.sp.root 0 m.d).2, E := Hw ++ (nmB σ.qu sq :: smK sq 0 (thQ a2 0 cap2) true smZ :: (Hq2 ++ E0)) })
    (fun wb => rcv_okK { σ with E := Hw ++ σ.E } h.wf wb sq 2 rcvC [] (t := t) ht a cap m Hw Hq E0 how (by show Hw ++ σ.E = _; rw [hE]; rfl) hm hd 0 rfl rfl rfl rfl rfl (hc 32 (by decide)) (hc _ hd) (by omega) (by omega))
    (fun τ e => by obtain ⟨a2, cap2, Hq2, -, rfl⟩ := e; exact ⟨rfl, ht⟩) _ ?_
  rintro τ ⟨a2, cap2, Hq2, how2, rfl⟩
  obtain ⟨τ, hτ⟩ : ∃ τ, τ = setR { σ with M := (outM σ.M t.v.sp.root 0 m.d).2, E := nmB σ.qu sq :: smK sq 0 (thQ a2 0 cap2) true smZ :: (Hq2 ++ E0) } 2 t ⟨0, m.d.length, m.t, [], false⟩ := ⟨_, rfl⟩
  have hml : Mail τ k b b1 w1 [] Hw c1 (overw c2 0 m.d) [] kidA ⟨0, m.d.length, m.t, [], false⟩ := by
    subst hτ
    refine ⟨h.k, by show (outM σ.M t.v.sp.root 0 m.d).2 = _; rw [ho], h.n1, overw_len h.n2 (by omega), h.L, h.Lw, ?_, ⟨{ t with v := { t.v with r := ⟨0, m.d.length, m.t, [], false⟩ } }, ?_, hsp, rfl, fun hh => absurd rfl hh⟩, ⟨sq, a2, cap2, Hq2, E0, how2, rfl⟩, h.W, h.wn⟩
    · obtain ⟨t1, h1, h2⟩ := h.t1
      refine ⟨t1, ?_, h2⟩
      show findG (setG σ.T 2 _) 1 = _
      rw [findG_set ht, if_neg (by decide)]
      exact h1
    · show findG (setG σ.T 2 _) 2 = _
      rw [findG_set ht, if_pos rfl]
  have hk : τ.k = σ.k := by rw [hτ]
  refine ⟨0, AgRuns.perm (H2 := mH gx Hw τ) ?_ ?_⟩
  · subst hτ
    exact List.Perm.cons _ (kH_app (setR { σ with M := (outM σ.M t.v.sp.root 0 m.d).2, E := nmB σ.qu sq :: smK sq 0 (thQ a2 0 cap2) true smZ :: (Hq2 ++ E0) } 2 t ⟨0, m.d.length, m.t, [], false⟩) Hw _)
  · rw [← hk]
    exact (ag_zero gx Hw hml.wn).mono fun H e => ⟨τ, hml, e⟩
theorem mail_wait (gx : Nat × Nat × Nat) (h : Mail σ k b b1 w1 [] Hw c1 c2 [] kidA r2) :
    Spec Tryz.prog 11 [ptrB k, .int .i64 2, .agg rcvC.cells.toArray] (mH gx Hw σ) fun v H' => v = waitR.val ∧ ∃ σ' Hw', Mail σ' k b b1 w1 [2] Hw' c1 c2 [] kidS r2 ∧ H' = mH gx Hw' σ' := by
  obtain ⟨t, ht, hsp, hr2, -⟩ := h.t2
  obtain ⟨sq, a, cap, Hq, E0, how, hE⟩ := h.E
  have inst : FnOk Tryz.prog 69 := inferInstance
  have hp : findP σ.L 2 = some ⟨b1, w1, kidA⟩ := by rw [h.L]; rfl
  have hc : checkC σ.M t.v.sp.root ((0 : Nat) : Int) ((32 : Nat) : Int) true = 0 := by rw [hsp, h.M]; exact checkC_in (refsX2 c1 c2) (walkX2 c1 c2) 0 32 (by decide) true
  obtain rfl := h.k
  refine Spec.perm (mH_perm gx Hw σ) ((step_all { σ with E := Hw ++ σ.E } gx 2 rcvC hp rfl ht (rightS (by decide) (by decide)) [] (fun wb => reads_no { σ with E := Hw ++ σ.E } wb t.ptr 2 0 0 rcvC (by decide) (by decide) (by decide)) _ inst sel_rcv
    (fun rs τ => rs = waitR ∧ τ = { σ with E := Hw ++ σ.E }) (fun wb => rcv_waitK { σ with E := Hw ++ σ.E } h.wf wb sq 2 rcvC [] (t := t) ht a cap Hw Hq E0 how (by show Hw ++ σ.E = _; rw [hE]; rfl) rfl rfl rfl rfl hc) ?_
    (fun rs H => rs = waitR ∧ ∃ σ' Hw', Mail σ' σ.k b b1 w1 [2] Hw' c1 c2 [] kidS r2 ∧ H = mH gx Hw' σ') ?_ ?_).mono ?_)
  · rintro rs τ ⟨rfl, rfl⟩
    exact ⟨rfl, t, ht, rfl⟩
  · rintro rs τ t' ⟨rfl, -⟩ h2
    cases h2
  · rintro rs τ t' ⟨rfl, rfl⟩ - ht' -
    obtain rfl : t' = t := Option.some.inj (ht'.symm.trans ht)
    refine ⟨2, [], Hw, σ.E, ⟨b1, w1, kidA⟩, rfl, by decide, rfl, by decide, h.wn, h.W, hp, rfl, ?_⟩
    intro g c ys hy1 hy2 hy3
    obtain ⟨τ, hτ⟩ : ∃ τ, τ = { sleepK σ 2 kidA t' rcvC [] (chanOf 2) g 1 c σ.E with k := σ.k } := ⟨_, rfl⟩
    have hml : Mail τ σ.k b b1 w1 [2] [wiB g [2] ys] c1 c2 [] kidS r2 := by
      subst hτ
      refine ⟨h.k, h.M, h.n1, h.n2, ?_, ?_, ?_, ⟨{ t' with v := { t'.v with c := rcvC, da := [] } }, ?_, hsp, hr2, fun _ => ⟨rfl, rfl⟩⟩, h.E, Own.blk (n := 1) rfl hy1 hy2 hy3, rfl⟩
      · show setP σ.L 2 (asleepP kidA (chanOf 2)) = _
        rw [h.L]
        rfl
      · show WfP (setP σ.L 2 (asleepP kidA (chanOf 2))) σ.last σ.c
        exact h.Lw.set rfl
      · obtain ⟨t1, h1, h2⟩ := h.t1
        refine ⟨t1, ?_, h2⟩
        show findG (setG σ.T 2 _) 1 = _
        rw [findG_set ht, if_neg (by decide)]
        exact h1
      · show findG (setG σ.T 2 _) 2 = _
        rw [findG_set ht, if_pos rfl]
    have hk : τ.k = σ.k := by rw [hτ]
    refine ⟨0, AgRuns.perm (H2 := mH gx [wiB g [2] ys] τ) ?_ ?_⟩
    · subst hτ
      exact List.Perm.cons _ (kH_app { sleepK σ 2 kidA t' rcvC [] (chanOf 2) g 1 c σ.E with k := σ.k } [wiB g [2] ys] σ.E)
    · have hz := (ag_wait gx hml).mono (F' := fun H => waitR = waitR ∧ ∃ σ' Hw', Mail σ' σ.k b b1 w1 [2] Hw' c1 c2 [] kidS r2 ∧ H = mH gx Hw' σ') fun H e => ⟨rfl, τ, _, hml, e⟩
      rw [hk] at hz
      exact hz
  · rintro v H' ⟨rs, rfl, rfl, h2⟩
    exact ⟨rfl, h2⟩
end
end Go.Proofs.YtcpfmjlceoiofaaGreatDoor
