/-
  Joined texts; each begins with its own sentence.
-/
import Derived.Test.YtcpfmjlceoiofaaGreatDoorN41
set_option linter.unusedSimpArgs false
set_option linter.unusedVariables false
set_option linter.unusedSectionVars false
/-
  Mail: the queue is made, the child is forked; the last result; all with what was handed in beside it.
-/
namespace Go.Proofs.YtcpfmjlceoiofaaGreatDoor
open Go.RowKit
section rules
variable {X : Cx} {Q : PostT} {l : St} {ds : List Deferred} {H : Hp} {ops : Array Oper} {rest : List Oper}
variable {d ty : Nat} {pos : String} {after : Array Edge}
/-- a load from a block that lies somewhere in the heap -/
theorem P_loadM {x : Operand} {t b o : Nat} [T : Ty X.P t 1 false] {C : Array Value} {E : TypeId} {fr : Nat × Nat} {v : Value} (hx : ev l x = some (.pointer (some ⟨b, o, none⟩))) (hm : (b, Blk.oth (.cells C E fr)) ∈ H) (hv : C.toList[o]? = some v) :
    PureOp X H l { dst := some d, op := .load t x, type := ty, pos, after, guard := none } v := by
  obtain ⟨R, hp⟩ := pull_of_mem hm
  exact P_load1o hx hp hv
end rules
open Go.RowKit
attribute [local irreducible] W L QL PureOp thenQ blockQ retQ Spec IterOk YSpec roundQ scopeQ noGoQ
attribute [local irreducible] AS ASi IterOkC retD retE
set_option maxHeartbeats 12800000
set_option maxRecDepth 8000
theorem WfK.setE {σ : KS} (h : WfK σ) (E : Hp) : WfK { σ with E := E } := ⟨h.M, h.L, h.R, h.Rn, h.T, h.Tw, h.keys, h.Rk, h.idle⟩
abbrev getC : CallV := ⟨18, 0, 0, 384, 0, 0, []⟩
theorem mail_get (gx : Nat × Nat × Nat) {σ : KS} (hw : WfK σ) {p : PE} (hp : findP σ.L 1 = some p) (hrun : p.p.state = 1) (hu : p.p.uid = 0 ∧ p.p.gid = 0) {s : SpM} (hs : spOf σ 1 = some s) (sq : Nat) (E0 : Hp) (hE : σ.E = nmB σ.qu sq :: smE sq :: E0) :
    Spec Tryz.prog 11 [ptrB σ.k, .int .i64 1, .agg getC.cells.toArray] (gvB gx :: kH σ) fun v H' => v = rs0.val ∧ ∃ σ', WfK σ' ∧ σ'.k = σ.k ∧ σ'.M = σ.M ∧ σ'.L = σ.L ∧ σ'.last = σ.last ∧ spOf σ' 1 = some s ∧ σ'.E = nmB σ'.qu sq :: smK sq 0 (thQ none 0 0) true smZ :: E0 ∧ σ'.wa = σ.wa ∧ σ'.wn = σ.wn ∧ σ'.wc = σ.wc ∧ H' = gvB gx :: kH σ' := by
  obtain ⟨t, ht, rfl⟩ := spOf_some hs
  have inst : FnOk Tryz.prog 67 := inferInstance
  have hd : ∀ wb, Spec Tryz.prog 67 [ptrB wb] (wkD wb σ.k t.ptr 1 p.p.uid p.p.gid getC [] :: kH σ) fun v H' => v = .tuple #[rs0.val, .nilIface] ∧ H' = wkD wb σ.k t.ptr 1 p.p.uid p.p.gid getC [] :: kH { σ with E := nmB σ.qu sq :: smK sq 0 (thQ none 0 0) true smZ :: E0 } := fun wb => by
    rw [hu.1, hu.2]
    have e : kH σ = kH { σ with E := [nmB σ.qu sq, smE sq] ++ E0 } := by show _ = kH { σ with E := nmB σ.qu sq :: smE sq :: E0 }; rw [← hE]
    rw [e]
    have p2 : ∀ y : Nat × Blk, (wkD wb σ.k t.ptr 1 0 0 getC [] :: kH { σ with E := [nmB σ.qu sq, y] ++ E0 }).Perm ([wkD wb σ.k t.ptr 1 0 0 getC [], knB σ, nmB σ.qu sq, y] ++ kHo { σ with E := E0 }) := fun y => by
      refine (List.Perm.cons _ (kH_app σ [nmB σ.qu sq, y] E0)).trans ?_
      show List.Perm (_ :: (_ :: _ :: (knB σ :: kHo { σ with E := E0 }))) (_ :: _ :: _ :: _ :: kHo { σ with E := E0 })
      exact permA
    refine Spec.perm (p2 _) (((kmsgget_spec σ wb sq t.ptr 1 getC rfl rfl).frame (kHo { σ with E := E0 })).permR ?_)
    rintro v H1 ⟨H2, ⟨rfl, rfl⟩, rfl⟩
    exact ⟨_, ⟨rfl, rfl⟩, (p2 _).symm⟩
  refine (step_all σ gx 1 getC hp hrun ht (rightS (by decide) (by decide)) [] (fun wb => reads_no σ wb t.ptr 1 p.p.uid p.p.gid getC (by decide) (by decide) (by decide)) _ inst (fun wb Ls hh => hh.2.2.2.1)
    (fun rs τ => rs = rs0 ∧ τ = { σ with E := nmB σ.qu sq :: smK sq 0 (thQ none 0 0) true smZ :: E0 }) (fun wb => (hd wb).told) ?_
    (fun rs H => rs = rs0 ∧ H = gvB gx :: kH (setR { σ with E := nmB σ.qu sq :: smK sq 0 (thQ none 0 0) true smZ :: E0 } 1 t rs0)) ?_ ?_).mono ?_
  · rintro rs τ ⟨rfl, rfl⟩
    exact ⟨rfl, t, ht, rfl⟩
  · rintro rs τ t' ⟨rfl, rfl⟩ - ht' -
    obtain rfl : t' = t := Option.some.inj (ht'.symm.trans ht)
    exact ⟨0, (ag_zero gx [] (σ := setR { σ with E := nmB σ.qu sq :: smK sq 0 (thQ none 0 0) true smZ :: E0 } 1 t' rs0) hw.idle).mono fun H e => ⟨rfl, e⟩⟩
  · rintro rs τ t' ⟨rfl, -⟩ h2
    cases h2
  · rintro v H' ⟨rs, rfl, rfl, rfl⟩
    refine ⟨rfl, _, (hw.setE (nmB σ.qu sq :: smK sq 0 (thQ none 0 0) true smZ :: E0)).setR (t := t) ht rs0, rfl, rfl, rfl, rfl, ?_, rfl, rfl, rfl, rfl, rfl⟩
    show (findG (setG σ.T 1 _) 1).map _ = _
    rw [findG_set ht, if_pos rfl]
    rfl
abbrev foC : CallV := ⟨1, 0, 0, 0, 0, 0, []⟩
theorem mail_fork (gx : Nat × Nat × Nat) {σ : KS} (hw : WfK σ) (b : Nat) (hL : σ.L = [⟨b, 0, newP⟩]) (hM : σ.M = M0) (hl : σ.last = 1) (hs : spOf σ 1 = some q0) (sq : Nat) (E0 : Hp) (hE : σ.E = nmB σ.qu sq :: smK sq 0 (thQ none 0 0) true smZ :: E0) (hwa : σ.wa = none) (hwc : σ.wc = 0) :
    Spec Tryz.prog 11 [ptrB σ.k, .int .i64 1, .agg foC.cells.toArray] (gvB gx :: kH σ) fun v H' => (∃ v', v = v') ∧ ∃ σ' b1 w1 r2, Mail σ' σ.k b b1 w1 [] [] z64 z64 [] kidA r2 ∧ H' = mH gx [] σ' := by
  have hp : findP σ.L 1 = some ⟨b, 0, newP⟩ := by rw [hL]; rfl
  have hS := step_fork σ hw 1 hp rfl hs (by rw [hM]; exact fork1_e) (by rw [hL]; show 1 < 16; decide) (by rw [hl]; decide)
  refine Spec.perm (List.perm_append_comm (l₁ := [gvB gx]) (l₂ := kH σ)) ((hS.frame [gvB gx]).permR ?_)
  rintro v H1 ⟨H2, ⟨rfl, σ', b1, hw', hk, hM', hL', hl', hsp, -, rfl⟩, rfl⟩
  obtain ⟨t1, ht1, hs1⟩ := spOf_some (show spOf σ' 1 = some q0 by rw [hsp, if_neg (by rw [hl]; decide)]; exact hs)
  obtain ⟨t2, ht2, hs2⟩ := spOf_some (show spOf σ' 2 = some q1 by
    rw [hsp, if_pos (by rw [hl]; rfl)]
    show some { q0 with root := (forkM σ.M q0.root).2.1 } = some { q0 with root := r1 }
    rw [hM]
    rfl)
  refine ⟨gvB gx :: ([] ++ kH σ'), ⟨⟨_, rfl⟩, σ', b1, σ.c, t2.v.r, ⟨hk.k, ?_, rfl, rfl, ?_, hw'.L, ⟨t1, ht1, hs1⟩, ⟨t2, ht2, hs2, rfl, fun h => absurd rfl h⟩, ⟨sq, none, 0, [], E0, Own.nil, ?_⟩, ?_, hw'.idle⟩, rfl⟩, List.perm_append_comm⟩
  · rw [hM', hM]
    exact M1_X
  · rw [hL', hL, hl]
    rfl
  · rw [hk.E, hE, hk.qu]
    rfl
  · rw [hk.wa, hwa, hk.wc, hwc]
    exact Own.nil
theorem klast_spec (σ : KS) (pid : Int) {t : GE TK} (ht : findG σ.T pid = some t) : Spec Tryz.prog 17 [ptrB σ.k, .int .i64 pid] (kH σ) fun v H' => v = .tuple #[t.v.r.val, .int .i64 0] ∧ H' = kH σ := by
  refine Spec_body Tryz.func17 rfl Tryz.ntmps17 rfl (fun w0 => ?_)
  obtain ⟨ZT, pT, -, -⟩ := blkG_at tkB ht
  have hk := ktask_spec σ pid ht
  obtain ⟨tb, tw, tk, tv⟩ := t
  simp only at pT hk ⊢
  have pZ : (kZ σ.L σ.R σ.T σ.E).Perm (tkB tb tv :: (prB σ.L ++ (blkG rowK σ.R ++ (ZT ++ tkXs σ.T σ.E)))) := by
    classical
    refine List.perm_iff_count.2 fun x => ?_
    have q1 := pT.count_eq x
    simp only [List.count_append, List.count_cons] at q1 ⊢
    rw [q1]
    ac_rfl
  repeat (first | refine stepA ?_ | intro _)
  refine callA ?_; refine ⟨_, _, hk, _, cutA, ?_⟩
  rintro v H' ⟨rfl, rfl⟩
  simp only [List.cons_append, List.nil_append]
  repeat (first | refine stepA ?_ | intro _)
  refine L_tail (T := kZ σ.L σ.R σ.T σ.E) pZ ?_
  simp only [List.cons_append, List.nil_append]
  repeat (first | refine stepA ?_ | intro _)
  (first | refine retA ?_ | refine retB ?_)
  refine ⟨_, ⟨rfl, rfl⟩, ?_⟩
  refine Sub.back (x := tkB tb tv) pZ ?_
  simp only [List.cons_append, List.nil_append]
  exact subT
/-- a kernel with its mail, and blocks that were handed in -/
theorem Spec.mb {f : FuncId} {args : List Value} {gx : Nat × Nat × Nat} {Hw : Hp} {σ : KS} {V : Value → Prop} {P : KS → Hp → Prop} (h : Spec Tryz.prog f args (mH gx Hw σ) fun v H' => V v ∧ ∃ σ' Hw', P σ' Hw' ∧ H' = mH gx Hw' σ') {Bs K : Hp} (hK : K = mH gx Hw σ ++ Bs) :
    Spec Tryz.prog f args K fun v H' => V v ∧ ∃ σ' Hw' K', P σ' Hw' ∧ K' = mH gx Hw' σ' ++ Bs ∧ H' = K' := by
  subst hK
  refine (h.frame Bs).mono ?_
  rintro v H' ⟨H1, ⟨h1, σ', Hw', h2, rfl⟩, rfl⟩
  exact ⟨h1, σ', Hw', _, h2, rfl, rfl⟩
section
variable {σ : KS} {k b b1 w1 : Nat} {Hw : Hp} {c1 c2 : List UInt8} {r2 : RS} {Bs K : Hp} {gx : Nat × Nat × Nat}
theorem lastK {ws : List Int} {l : List MsgV} {p2 : PR} (h : Mail σ k b b1 w1 ws Hw c1 c2 l p2 r2) (hK : K = mH gx Hw σ ++ Bs) : Spec Tryz.prog 17 [ptrB k, .int .i64 2] K fun v H' => v = .tuple #[r2.val, .int .i64 0] ∧ H' = K := by
  obtain ⟨t, ht, -, hr, -⟩ := h.t2
  have hl := klast_spec σ 2 ht
  rw [hr, h.k] at hl
  have p : K.Perm (kH σ ++ (gvB gx :: (Hw ++ Bs))) := by
    subst hK
    show List.Perm (gvB gx :: (Hw ++ kH σ) ++ Bs) _
    simp only [List.cons_append, List.append_assoc]
    exact permA
  refine Spec.perm p ((hl.frame _).permR ?_)
  rintro v H1 ⟨H2, ⟨rfl, rfl⟩, rfl⟩
  exact ⟨_, ⟨rfl, rfl⟩, p.symm⟩
/-- who waits ahead: one round -/
theorem aheadK1 (h : Mail σ k b b1 w1 [] Hw c1 c2 [] kidA r2) (hK : K = mH gx Hw σ ++ Bs) :
    Spec Tryz.prog 11 [ptrB k, .int .i64 2, .agg rcvC.cells.toArray] K fun v H' => v = waitR.val ∧ ∃ σ' Hw' K', Mail σ' k b b1 w1 [2] Hw' c1 c2 [] kidS r2 ∧ K' = mH gx Hw' σ' ++ Bs ∧ H' = K' :=
  (mail_wait gx h).mb hK
theorem storeK {ws : List Int} {p2 : PR} (h : Mail σ k b b1 w1 ws Hw c1 c2 [] p2 r2) (hws : ws = [] ∨ (ws = [2] ∧ p2 = kidS)) (s : List UInt8) (hs : s.length ≤ 32) (hK : K = mH gx Hw σ ++ Bs) :
    Spec Tryz.prog 11 [ptrB k, .int .i64 1, .agg (stoC s).cells.toArray] K fun v H' => v = rs0.val ∧ ∃ σ' Hw' K', Mail σ' k b b1 w1 ws Hw' (overw c1 10 s) c2 [] p2 r2 ∧ K' = mH gx Hw' σ' ++ Bs ∧ H' = K' :=
  ((mail_store gx h (hws.imp id fun ⟨h1, h2⟩ => ⟨h1, rfl, h2⟩) s hs).mono fun _ _ ⟨h1, σ', h2, h3⟩ => ⟨h1, σ', Hw, h2, h3⟩ : Spec Tryz.prog _ _ _ fun v H' => v = rs0.val ∧ ∃ σ' Hw', Mail σ' k b b1 w1 ws Hw' (overw c1 10 s) c2 [] p2 r2 ∧ H' = mH gx Hw' σ').mb hK
theorem sndK (h : Mail σ k b b1 w1 [] Hw c1 c2 [] kidA r2) (s : List UInt8) (d : Int) (hn : s.length ≤ 32) (hs : (c1.drop 10).take s.length = s) (hd : 1 ≤ d ∧ d ≤ 32767) (hK : K = mH gx Hw σ ++ Bs) :
    Spec Tryz.prog 11 [ptrB k, .int .i64 1, .agg (sndC s.length d).cells.toArray] K fun v H' => v = rs0.val ∧ ∃ σ' Hw' K', Mail σ' k b b1 w1 [] Hw' c1 c2 [⟨d, s⟩] kidA r2 ∧ K' = mH gx Hw' σ' ++ Bs ∧ H' = K' :=
  (mail_snd gx h s.length d hn hd (fun H => ∃ σ' Hw', Mail σ' k b b1 w1 [] Hw' c1 c2 [⟨d, s⟩] kidA r2 ∧ H = mH gx Hw' σ') fun τ _ hm => ⟨0, (ag_zero gx Hw hm.wn).mono fun H e => ⟨τ, Hw, by rw [hs] at hm; exact hm, e⟩⟩).mb hK
theorem sndK2 (h : Mail σ k b b1 w1 [2] Hw c1 c2 [] kidS r2) (s : List UInt8) (d : Int) (hn : s.length ≤ 32) (hs : (c1.drop 10).take s.length = s) (hd : 1 ≤ d ∧ d ≤ 32767) (hK : K = mH gx Hw σ ++ Bs) :
    Spec Tryz.prog 11 [ptrB k, .int .i64 1, .agg (sndC s.length d).cells.toArray] K fun v H' => v = rs0.val ∧ ∃ σ' Hw' K', Mail σ' k b b1 w1 [] Hw' c1 (overw c2 0 s) [] kidA ⟨0, s.length, d, [], false⟩ ∧ K' = mH gx Hw' σ' ++ Bs ∧ H' = K' :=
  (mail_snd gx h s.length d hn hd (fun H => ∃ σ' Hw', Mail σ' k b b1 w1 [] Hw' c1 (overw c2 0 s) [] kidA ⟨0, s.length, d, [], false⟩ ∧ H = mH gx Hw' σ') fun τ _ hm => ⟨1, by rw [hs] at hm; exact ag_done gx hm ⟨hd.1, by have := hd.2; show d ≤ 9223372036854775807; omega⟩ hn⟩).mb hK
theorem rcvK {m : MsgV} (h : Mail σ k b b1 w1 [] Hw c1 c2 [m] kidA r2) (hm : 1 ≤ m.t ∧ m.t ≤ 32767) (hd : m.d.length ≤ 32) (hK : K = mH gx Hw σ ++ Bs) :
    Spec Tryz.prog 11 [ptrB k, .int .i64 2, .agg rcvC.cells.toArray] K fun v H' => v = RS.val ⟨0, m.d.length, m.t, [], false⟩ ∧ ∃ σ' Hw' K', Mail σ' k b b1 w1 [] Hw' c1 (overw c2 0 m.d) [] kidA ⟨0, m.d.length, m.t, [], false⟩ ∧ K' = mH gx Hw' σ' ++ Bs ∧ H' = K' :=
  ((mail_rcv gx h ⟨hm.1, by have := hm.2; omega⟩ hd).mono fun _ _ ⟨h1, σ', h2, h3⟩ => ⟨h1, σ', Hw, h2, h3⟩ : Spec Tryz.prog _ _ _ fun v H' => v = RS.val ⟨0, m.d.length, m.t, [], false⟩ ∧ ∃ σ' Hw', Mail σ' k b b1 w1 [] Hw' c1 (overw c2 0 m.d) [] kidA ⟨0, m.d.length, m.t, [], false⟩ ∧ H' = mH gx Hw' σ').mb hK
theorem loadK (h : Mail σ k b b1 w1 [] Hw c1 c2 [] kidA r2) (s : List UInt8) (hn : s.length ≤ 32) (hs : c2.take s.length = s) (hK : K = mH gx Hw σ ++ Bs) :
    Spec Tryz.prog 11 [ptrB k, .int .i64 2, .agg (loaC s.length).cells.toArray] K fun v H' => v = RS.val ⟨0, 0, 0, s, false⟩ ∧ ∃ σ' Hw' K', Mail σ' k b b1 w1 [] Hw' c1 c2 [] kidA ⟨0, 0, 0, s, false⟩ ∧ K' = mH gx Hw' σ' ++ Bs ∧ H' = K' := by
  have hl := mail_load gx h s.length hn
  rw [hs] at hl
  exact (hl.mono fun _ _ ⟨h1, σ', h2, h3⟩ => ⟨h1, σ', Hw, h2, h3⟩ : Spec Tryz.prog _ _ _ fun v H' => v = RS.val ⟨0, 0, 0, s, false⟩ ∧ ∃ σ' Hw', Mail σ' k b b1 w1 [] Hw' c1 c2 [] kidA ⟨0, 0, 0, s, false⟩ ∧ H' = mH gx Hw' σ').mb hK
end
end Go.Proofs.YtcpfmjlceoiofaaGreatDoor

/-
  The law TopMail: its loop.
-/
namespace Go.Proofs.YtcpfmjlceoiofaaGreatDoor
open Go.RowKit
attribute [local irreducible] W L QL PureOp thenQ blockQ retQ Spec IterOk YSpec roundQ scopeQ noGoQ
attribute [local irreducible] AS ASi IterOkC retD retE
set_option maxHeartbeats 25600000
set_option maxRecDepth 8000
/-- a slice of texts that was handed in -/
def RdS (Bs : Hp) (p : Option Addr) (n : Nat) : Prop := ∀ i, i < n → ∃ g o C E fr s, p = some ⟨g, o, none⟩ ∧ (g, Blk.oth (.cells C E fr)) ∈ Bs ∧ C.toList[o + i]? = some (str s)
theorem mail_spec (gx : Nat × Nat × Nat) (Bs : Hp) (p1 : Option Addr) (n1 cc : Nat) (ahead : Bool) (hn1 : n1 ≤ 9223372036854775807) (h1 : RdS Bs p1 n1) :
    Spec Tryz.prog 6 [.slice p1 n1 cc, .bool ahead] (gvB gx :: Bs) fun v H' => v = .bool true ∧ H' = gvB gx :: Bs := by
  refine Spec_body Tryz.func6 rfl Tryz.ntmps6 rfl (fun w0 => ?_)
  repeat (first | refine stepA ?_ | intro _)
  refine callT ?_; refine ⟨_, _, shown_spec, _, cutT, ?_⟩
  rintro v H' ⟨rfl, rfl⟩
  rw [List.append_nil]
  repeat (first | refine stepA ?_ | intro _)
  refine callT ?_; refine ⟨_, _, booted2_spec, _, cutT, ?_⟩
  rintro v H' ⟨σ, b, rfl, hw, hM, hL, hlast, hs1, ⟨sq, hE⟩, hwa, hwc, rfl⟩
  obtain ⟨K, hK⟩ : ∃ K, K = gvB gx :: kH σ ++ Bs := ⟨_, rfl⟩
  refine L_perm (H' := K) (by rw [hK]; simp only [List.cons_append]; exact permA) ?_
  have hg := (mail_get gx hw (p := ⟨b, 0, newP⟩) (by rw [hL]; rfl) rfl ⟨rfl, rfl⟩ hs1 sq _ hE).frame Bs
  rw [← hK] at hg
  repeat (first | refine stepA ?_ | intro _)
  refine callT ?_; refine ⟨_, _, hg, _, cutT, ?_⟩
  rintro v H' ⟨H1, ⟨rfl, σ1, hw1, hk1, hM1, hL1, hl1, hs2, hE1, hwa1, hwn1, hwc1, rfl⟩, rfl⟩
  simp only [List.nil_append]
  obtain ⟨K1, hK1⟩ : ∃ K1, K1 = gvB gx :: kH σ1 ++ Bs := ⟨_, rfl⟩
  rw [← hK1]
  have hf := (mail_fork gx hw1 b (by rw [hL1, hL]) (by rw [hM1, hM]) (by rw [hl1, hlast]) hs2 sq _ hE1 (by rw [hwa1, hwa]) (by rw [hwc1, hwc])).frame Bs
  rw [← hK1, hk1] at hf
  obtain ⟨k, hk⟩ : ∃ k, σ.k = k := ⟨_, rfl⟩
  rw [hk] at hf ⊢
  repeat (first | refine stepA ?_ | intro _)
  refine callT ?_; refine ⟨_, _, hf, _, cutT, ?_⟩
  rintro v H' ⟨H1, ⟨⟨v2, rfl⟩, σ2, b1, w1, r2, hm2, rfl⟩, rfl⟩
  simp only [List.nil_append]
  obtain ⟨K2, hK2⟩ : ∃ K2, K2 = mH gx [] σ2 ++ Bs := ⟨_, rfl⟩
  rw [← hK2]
  repeat (first | refine stepA ?_ | intro _)
  refine W_loop (fun x : Nat × KS × Hp => [(0, .slice p1 n1 cc), (1, .bool ahead), (5, .bool true), (6, ptrB k), (7, .bool true), (8, .int .i64 (x.1 : Int))]) (fun x => x.2.2) (fun x => x.1 ≤ 12 ∧ x.1 ≤ n1 ∧ ∃ Hw c1 c2 r, Mail x.2.1 k b b1 w1 [] Hw c1 c2 [] kidA r ∧ x.2.2 = mH gx Hw x.2.1 ++ Bs) (fun x => 12 - x.1) (0, σ2, K2) ⟨by omega, by omega, [], z64, z64, r2, hm2, hK2⟩ sublA (Sub.ofPermR (R := []) (by rw [List.append_nil])) ?_
  rintro ⟨i, σi, Ki⟩ ⟨hi12, hin, Hw, c1, c2, r, hmi, hKi⟩
  simp only at hi12 hin hmi hKi ⊢
  by_cases hA : i < n1 ∧ i < 12
  · obtain ⟨hA1, hA2⟩ := hA
    obtain ⟨g, o, C, E, fr, s0, rfl, hmem, hx⟩ := h1 i hA1
    have hmK : (g, Blk.oth (.cells C E fr)) ∈ Ki := by rw [hKi]; exact List.mem_append_right _ hmem
    repeat (first | refine stepA ?_ | intro _)
    (first | (apply L_P; (· exact rfl); (· exact rfl)) | (apply QL_P; (· exact rfl)))
    · exact P_loadM (v := str s0) (ev_of rfl (by with_reducible rfl)) hmK (by have := hx; simp at this ⊢; exact this)
    repeat (first | refine stepA ?_ | intro _)
    (first | (apply L_P; (· exact rfl); (· exact rfl)) | (apply QL_P; (· exact rfl)))
    · exact P_loadM (v := str s0) (ev_of rfl (by with_reducible rfl)) hmK (by have := hx; simp at this ⊢; exact this)
    repeat (first | refine stepA ?_ | intro _)
    (first | (apply L_P; (· exact rfl); (· exact rfl)) | (apply QL_P; (· exact rfl))); (· (apply P_slStr; (· exact evA); (· exact Bound.none); (· exact Bound.of (j := min s0.length 32) rfl (by omega)); (· omega)))
    obtain ⟨s, hs⟩ : ∃ s, (s0.drop 0).take (min s0.length 32 - 0) = s := ⟨_, rfl⟩
    have hsl : s.length ≤ 32 := by rw [← hs]; simp; omega
    rw [hs]
    have hq1 := overw_read (c := c1) (a := 10) (s := s) hmi.n1 (by omega)
    have hq2 := overw_read (c := c2) (a := 0) (s := s) hmi.n2 (by omega)
    rw [List.drop_zero] at hq2
    cases ahead with
    | true =>
      repeat (first | refine stepA ?_ | intro _)
      refine callT ?_; refine ⟨_, _, aheadK1 hmi hKi, _, cutT, ?_⟩
      rintro v H' ⟨rfl, σ3, Hw3, K3, hm3, hK3, rfl⟩
      simp only [List.nil_append]
      repeat (first | refine stepA ?_ | intro _)
      refine callT ?_; refine ⟨_, _, storeK hm3 (.inr ⟨rfl, rfl⟩) s hsl hK3, _, cutT, ?_⟩
      rintro v H' ⟨rfl, σ4, Hw4, K4, hm4, hK4, rfl⟩
      simp only [List.nil_append]
      repeat (first | refine stepA ?_ | intro _)
      refine callT ?_; refine ⟨_, _, sndK2 hm4 s (1 + (i : Int)) hsl hq1 ⟨by omega, by omega⟩ hK4, _, cutT, ?_⟩
      rintro v H' ⟨rfl, σ5, Hw5, K5, hm5, hK5, rfl⟩
      simp only [List.nil_append]
      repeat (first | refine stepA ?_ | intro _)
      refine callT ?_; refine ⟨_, _, lastK hm5 hK5, _, cutT, ?_⟩
      rintro v H' ⟨rfl, rfl⟩
      simp only [List.cons_append, List.nil_append]
      repeat (first | refine stepA ?_ | intro _)
      refine callT ?_; refine ⟨_, _, loadK hm5 s hsl hq2 hK5, _, cutT, ?_⟩
      rintro v K9 ⟨rfl, σ6, Hw6, _, hm6, hK9, rfl⟩
      simp only [List.cons_append, List.nil_append]
      repeat (first | refine stepA ?_ | intro _)
      (first | (apply L_P; (· exact rfl); (· exact rfl)) | (apply QL_P; (· exact rfl)))
      · exact P_neS (xs := RS.cells rs0) (ys := RS.cells rs0) (b := true) (ev_of rfl rfl) (ev_of rfl rfl) (fitRS _) (fitRS _) (by simp)
      simp only [Bool.not_true]
      repeat (first | refine stepA ?_ | intro _)
      (first | (apply L_P; (· exact rfl); (· exact rfl)) | (apply QL_P; (· exact rfl)))
      · exact P_neS (xs := RS.cells ⟨0, s.length, 1 + (i : Int), [], false⟩) (ys := RS.cells ⟨0, s.length, 1 + (i : Int), [], false⟩) (b := true) (ev_of rfl rfl) (ev_of rfl rfl) (fitRS _) (fitRS _) (by simp)
      simp only [Bool.not_true]
      repeat (first | refine stepA ?_ | intro _)
      (first | (apply L_P; (· exact rfl); (· exact rfl)) | (apply QL_P; (· exact rfl)))
      · exact P_neS (xs := RS.cells ⟨0, 0, 0, s, false⟩) (ys := RS.cells ⟨0, 0, 0, s, false⟩) (b := true) (ev_of rfl rfl) (ev_of rfl rfl) (fitRS _) (fitRS _) (by simp)
      simp only [Bool.not_true]
      repeat (first | refine stepA ?_ | intro _)
      exact ⟨rfl, (i + 1, σ6, K9), ⟨by simp only; omega, by simp only; omega, _, _, _, _, hm6, hK9⟩, by simp only; omega, sublA, subT⟩
    | false =>
      repeat (first | refine stepA ?_ | intro _)
      refine callT ?_; refine ⟨_, _, storeK hmi (.inl rfl) s hsl hKi, _, cutT, ?_⟩
      rintro v H' ⟨rfl, σ4, Hw4, K4, hm4, hK4, rfl⟩
      simp only [List.nil_append]
      repeat (first | refine stepA ?_ | intro _)
      refine callT ?_; refine ⟨_, _, sndK hm4 s (1 + (i : Int)) hsl hq1 ⟨by omega, by omega⟩ hK4, _, cutT, ?_⟩
      rintro v H' ⟨rfl, σ5, Hw5, K5, hm5, hK5, rfl⟩
      simp only [List.nil_append]
      repeat (first | refine stepA ?_ | intro _)
      refine callT ?_; refine ⟨_, _, lastK hm5 hK5, _, cutT, ?_⟩
      rintro v H' ⟨rfl, rfl⟩
      simp only [List.cons_append, List.nil_append]
      repeat (first | refine stepA ?_ | intro _)
      refine callT ?_; refine ⟨_, _, rcvK hm5 ⟨by show 1 ≤ 1 + (i : Int); omega, by show 1 + (i : Int) ≤ 32767; omega⟩ hsl hK5, _, cutT, ?_⟩
      rintro v H' ⟨rfl, σ6, Hw6, K6, hm6, hK6, rfl⟩
      simp only [List.cons_append, List.nil_append]
      repeat (first | refine stepA ?_ | intro _)
      refine callT ?_; refine ⟨_, _, loadK hm6 s hsl hq2 hK6, _, cutT, ?_⟩
      rintro v K9 ⟨rfl, σ7, Hw7, _, hm7, hK9, rfl⟩
      simp only [List.cons_append, List.nil_append]
      repeat (first | refine stepA ?_ | intro _)
      (first | (apply L_P; (· exact rfl); (· exact rfl)) | (apply QL_P; (· exact rfl)))
      · exact P_neS (xs := RS.cells rs0) (ys := RS.cells rs0) (b := true) (ev_of rfl rfl) (ev_of rfl rfl) (fitRS _) (fitRS _) (by simp)
      simp only [Bool.not_true]
      repeat (first | refine stepA ?_ | intro _)
      (first | (apply L_P; (· exact rfl); (· exact rfl)) | (apply QL_P; (· exact rfl)))
      · exact P_neS (xs := RS.cells ⟨0, s.length, 1 + (i : Int), [], false⟩) (ys := RS.cells ⟨0, s.length, 1 + (i : Int), [], false⟩) (b := true) (ev_of rfl rfl) (ev_of rfl rfl) (fitRS _) (fitRS _) (by simp)
      simp only [Bool.not_true]
      repeat (first | refine stepA ?_ | intro _)
      (first | (apply L_P; (· exact rfl); (· exact rfl)) | (apply QL_P; (· exact rfl)))
      · exact P_neS (xs := RS.cells ⟨0, 0, 0, s, false⟩) (ys := RS.cells ⟨0, 0, 0, s, false⟩) (b := true) (ev_of rfl rfl) (ev_of rfl rfl) (fitRS _) (fitRS _) (by simp)
      simp only [Bool.not_true]
      repeat (first | refine stepA ?_ | intro _)
      exact ⟨rfl, (i + 1, σ7, K9), ⟨by simp only; omega, by simp only; omega, _, _, _, _, hm7, hK9⟩, by simp only; omega, sublA, subT⟩
  · have hB : ¬ ((i : Int) < (n1 : Int) ∧ (i : Int) < 12) := by omega
    by_cases hA1 : i < n1
    · have hA2 : ¬ i < 12 := fun h => hA ⟨hA1, h⟩
      repeat (first | refine stepA ?_ | intro _)
      (first | refine retA ?_ | refine retB ?_)
      exact ⟨_, ⟨rfl, rfl⟩, Sub.ofPermR (R := Hw ++ kH σi) (by rw [hKi]; show List.Perm ((gvB gx :: Bs) ++ (Hw ++ kH σi)) ((gvB gx :: (Hw ++ kH σi)) ++ Bs); simp only [List.cons_append]; exact permA)⟩
    · repeat (first | refine stepA ?_ | intro _)
      (first | refine retA ?_ | refine retB ?_)
      exact ⟨_, ⟨rfl, rfl⟩, Sub.ofPermR (R := Hw ++ kH σi) (by rw [hKi]; show List.Perm ((gvB gx :: Bs) ++ (Hw ++ kH σi)) ((gvB gx :: (Hw ++ kH σi)) ++ Bs); simp only [List.cons_append]; exact permA)⟩
end Go.Proofs.YtcpfmjlceoiofaaGreatDoor
