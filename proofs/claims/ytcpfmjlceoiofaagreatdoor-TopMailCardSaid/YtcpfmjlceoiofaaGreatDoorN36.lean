/-
  Joined texts; each begins with its own sentence.
-/
import Derived.Test.YtcpfmjlceoiofaaGreatDoorN35
import Derived.Test.YtcpfmjlceoiofaaGreatDoorN34
import Derived.Test.YtcpfmjlceoiofaaGreatDoorN08
import Derived.Test.YtcpfmjlceoiofaaGreatDoorN06
import Derived.Test.YtcpfmjlceoiofaaGreatDoorN07
set_option linter.unusedSimpArgs false
set_option linter.unusedVariables false
set_option linter.unusedSectionVars false
/-
  The kernel: Step: fork, exit, wait; Proc, Pids.
-/
namespace Go.Proofs.YtcpfmjlceoiofaaGreatDoor
open Go.RowKit
attribute [local irreducible] W L QL PureOp thenQ blockQ retQ Spec IterOk YSpec roundQ scopeQ noGoQ
attribute [local irreducible] AS ASi IterOkC retD retE
set_option maxHeartbeats 12800000
set_option maxRecDepth 8000
abbrev cV (no a : Int) : CallV := ⟨no, 0, a, 0, 0, 0, []⟩
theorem cV_ok {no a : Int} (h1 : 1 ≤ no ∧ no ≤ 25) (h2 : Sh a) : RightP (cV no a) := ⟨h1, by show (0 : Int) ≤ 0 ∧ (0 : Int) ≤ 255; decide, h2, by show Sh 0; decide, by show Sh 0; decide, by show Sh 0; decide, by simp⟩
/-- a process's space -/
def spOf (σ : KS) (k : Int) : Option SpM := (findG σ.T k).map (·.v.sp)
theorem spOf_setR {σ : KS} {pid : Int} {t : GE TK} (ht : findG σ.T pid = some t) (rs : RS) (k : Int) : spOf (setR σ pid t rs) k = spOf σ k := by
  show (findG (setG σ.T pid { t.v with r := rs }) k).map (·.v.sp) = (findG σ.T k).map (·.v.sp)
  rw [findG_set ht]
  split
  · rename_i h; rw [h, ht]; rfl
  · rfl
theorem spOf_some {σ : KS} {k : Int} {s : SpM} (h : spOf σ k = some s) : ∃ t, findG σ.T k = some t ∧ t.v.sp = s := by
  unfold spOf at h
  cases hf : findG σ.T k with
  | none => rw [hf] at h; cases h
  | some t => rw [hf] at h; exact ⟨t, rfl, Option.some.inj h⟩
section
variable (σ : KS)
theorem step_fork (hw : WfK σ) (pid : Int) {p : PE} {s : SpM} (hp : findP σ.L pid = some p) (hrun : p.p.state = 1) (hs : spOf σ pid = some s) (hM : (forkM σ.M s.root).1 = 0) (hlen : σ.L.length < 16) (hlast : σ.last < 30000) :
    Spec Tryz.prog 11 [ptrB σ.k, .int .i64 pid, .agg (cV 1 0).cells.toArray] (kH σ) fun v H' => v = RS.val ⟨0, σ.last + 1, 0, [], false⟩ ∧
      ∃ σ' b, WfK σ' ∧ Keep σ σ' ∧ σ'.M = (forkM σ.M s.root).2.2 ∧ σ'.L = σ.L ++ [⟨b, σ.c, childP p pid σ.last⟩] ∧ σ'.last = σ.last + 1 ∧ (∀ k, spOf σ' k = if k = σ.last + 1 then some { s with root := (forkM σ.M s.root).2.1 } else spOf σ k) ∧ (findG σ'.R (σ.last + 1)).isSome = true ∧ H' = kH σ' := by
  obtain ⟨t, ht, rfl⟩ := spOf_some hs
  have hlast1 := hw.L.last
  have hpid : 1 ≤ pid ∧ pid ≤ σ.last := by have := hw.L.rng p (findP_mem hp); rwa [findP_pid hp] at this
  have inst : FnOk Tryz.prog 50 := inferInstance
  have hTn : findG σ.T (σ.last + 1) = none := by
    have := hw.keys (σ.last + 1)
    rw [findP_last hw.L] at this
    cases h : findG σ.T (σ.last + 1) with
    | none => rfl
    | some y => rw [h] at this; simp at this
  refine (step_gen σ pid (cV 1 0) hp hrun ht (cV_ok (by decide) (by decide)) (by decide) (by decide) (by decide) _ inst ⟨0, σ.last + 1, 0, [], false⟩ rfl
    (fun σ' => ∃ b nb nt R' rc', nt.sp = { t.v.sp with root := (forkM σ.M t.v.sp.root).2.1 } ∧ (findG R' (σ.last + 1)).isSome = true ∧ WfK (forkK σ t.v.sp.root p pid b nb nt R' rc') ∧ σ' = forkK σ t.v.sp.root p pid b nb nt R' rc')
    (fun wb Ls h => h.1) (fun wb => (kfork_spec σ hw wb p.p.uid p.p.gid pid (cV 1 0) hp hrun ht hM hlen hlast).mono ?_) ?_).mono ?_
  · rintro v H' ⟨b, nb, nt, R', rc', rfl, h1, h3, h2, rfl⟩
    exact ⟨rfl, _, ⟨b, nb, nt, R', rc', h1, h3, h2, rfl⟩, rfl⟩
  · rintro _ ⟨b, nb, nt, R', rc', h1, h3, h2, rfl⟩
    refine ⟨rfl, hw.idle, t, ?_, rfl⟩
    show findG (σ.T ++ [_]) pid = some t
    rw [findG_add, ht]
    rfl
  · rintro v H' ⟨rfl, σ', t', ⟨b, nb, nt, R', rc', h1, h3, h2, rfl⟩, ht', -, rfl⟩
    refine ⟨rfl, _, b, h2.setR ht' _, ⟨rfl, rfl, rfl, rfl, rfl, rfl, rfl, rfl⟩, rfl, rfl, rfl, ?_, h3, rfl⟩
    intro k
    rw [spOf_setR ht']
    show (findG (σ.T ++ [_]) k).map (·.v.sp) = if k = σ.last + 1 then some { t.v.sp with root := (forkM σ.M t.v.sp.root).2.1 } else (findG σ.T k).map (·.v.sp)
    rw [findG_add]
    by_cases hk : k = σ.last + 1
    · rw [if_pos hk, if_pos hk, hk, hTn]
      simp [h1]
    · rw [if_neg hk, if_neg hk, Option.or_none]
theorem ktask_spec (pid : Int) {t : GE TK} (ht : findG σ.T pid = some t) : Spec Tryz.prog 40 [ptrB σ.k, .int .i64 pid] [knB σ, tmB σ.tm σ.T σ.tc] fun v H' => v = .tuple #[t.ptr, .int .i64 0] ∧ H' = [knB σ, tmB σ.tm σ.T σ.tc] := by
  refine Spec_body Tryz.func40 rfl Tryz.ntmps40 rfl (fun w0 => ?_)
  repeat (first | refine stepA ?_ | intro _)
  (first | (apply L_P; (· exact rfl); (· exact rfl)) | (apply QL_P; (· exact rfl))); (· (apply P_lookupOk; (· exact evA); (· exact evA); (· exact pullA)))
  rw [getL_g, ht]
  simp only [Option.map_some, Option.getD_some, Option.isSome_some]
  repeat (first | refine stepA ?_ | intro _)
  (first | refine retA ?_ | refine retB ?_); exact ⟨_, ⟨rfl, rfl⟩, subA⟩
theorem kpids_spec (hw : WfK σ) (hup : (pidsP σ.L).Pairwise (· < ·)) : Spec Tryz.prog 12 [ptrB σ.k] (kH σ) fun v H' => ∃ a cap Hs, v = .slice a σ.L.length cap ∧ Own 3 1 a σ.L.length cap (ivs (pidsP σ.L)) Hs ∧ H' = kH σ ++ Hs := by
  have e1 : (σ.L.map PE.kv).map (·.k) = pidsP σ.L := by simp [pidsP, PE.kv, Function.comp_def]
  have e : ksS (σ.L.map PE.kv) = pidsP σ.L := by
    rw [ksS, e1]
    exact sortI_eq (List.Perm.refl _) (hup.imp fun h => Int.le_of_lt h)
  have hg := pids_spec σ.pr σ.mb σ.last hw.L.ks
  rw [e, List.length_map] at hg
  refine Spec_body Tryz.func12 rfl Tryz.ntmps12 rfl (fun w0 => ?_)
  repeat (first | refine stepA ?_ | intro _)
  refine callT ?_; refine ⟨_, _, hg, _, cutT, ?_⟩
  rintro v H' ⟨a, cap, Hs, rfl, how, rfl⟩
  simp only [List.cons_append, List.nil_append, List.append_assoc]
  repeat (first | refine stepA ?_ | intro _)
  (first | refine retA ?_ | refine retB ?_)
  refine ⟨_, ⟨a, cap, Hs, rfl, how, rfl⟩, ?_⟩
  exact Sub.ofPermR (R := []) (by rw [List.append_nil]; exact permA)
end
end Go.Proofs.YtcpfmjlceoiofaaGreatDoor

/-
  Slots of pipes: all, isOf, Add, with, Get, Remove, at the first slot.
-/
namespace Go.Proofs.YtcpfmjlceoiofaaGreatDoor
open Go.RowKit
attribute [local irreducible] W L QL PureOp thenQ blockQ retQ Spec IterOk YSpec roundQ scopeQ noGoQ
attribute [local irreducible] AS ASi IterOkC retD retE
set_option maxHeartbeats 6400000
set_option maxRecDepth 4000
/-- the first slot, and the others -/
abbrev slK (b : Nat) (q : Int) (o : Option Addr) (h : Bool) (Z : List Value) : Nat × Blk := (b, .cells (.int .i64 q :: .pointer o :: .bool h :: Z) 165)
/-- seven free slots -/
abbrev slZ : List Value := [.int .i64 0, .pointer none, .bool false, .int .i64 0, .pointer none, .bool false, .int .i64 0, .pointer none, .bool false, .int .i64 0, .pointer none, .bool false, .int .i64 0, .pointer none, .bool false, .int .i64 0, .pointer none, .bool false, .int .i64 0, .pointer none, .bool false]
section
variable {X : Cx} {Q : PostT} {l : St} {ds : List Deferred} {H : Hp}
end
section
variable (s : Nat) (q : Int) (Z : List Value)
end
end Go.Proofs.YtcpfmjlceoiofaaGreatDoor

/-
  Slots of queues: all, isOf, Add, with, Get, Set, at the first slot.
-/
namespace Go.Proofs.YtcpfmjlceoiofaaGreatDoor
open Go.RowKit
attribute [local irreducible] W L QL PureOp thenQ blockQ retQ Spec IterOk YSpec roundQ scopeQ noGoQ
attribute [local irreducible] AS ASi IterOkC retD retE
set_option maxHeartbeats 6400000
set_option maxRecDepth 4000
/-- a thing: its permission, its key, its slice -/
structure ThV where
  u : Int
  g : Int
  cu : Int
  cg : Int
  md : Int
  key : Int
  a : Option Addr
  n : Nat
  cap : Nat
abbrev ThV.cells (x : ThV) : List Value := [.int .i64 x.u, .int .i64 x.g, .int .i64 x.cu, .int .i64 x.cg, .int .i64 x.md, .int .i64 x.key, .slice x.a x.n x.cap]
abbrev th0 : ThV := ⟨0, 0, 0, 0, 0, 0, none, 0, 0⟩
/-- the first slot, and the others -/
abbrev smK (b : Nat) (q : Int) (o : ThV) (h : Bool) (Z : List Value) : Nat × Blk := (b, .cells (.int .i64 q :: .int .i64 o.u :: .int .i64 o.g :: .int .i64 o.cu :: .int .i64 o.cg :: .int .i64 o.md :: .int .i64 o.key :: .slice o.a o.n o.cap :: .bool h :: Z) 321)
/-- seven free slots -/
abbrev smZ : List Value := [.int .i64 0, .int .i64 0, .int .i64 0, .int .i64 0, .int .i64 0, .int .i64 0, .int .i64 0, .slice none 0 0, .bool false, .int .i64 0, .int .i64 0, .int .i64 0, .int .i64 0, .int .i64 0, .int .i64 0, .int .i64 0, .slice none 0 0, .bool false, .int .i64 0, .int .i64 0, .int .i64 0, .int .i64 0, .int .i64 0, .int .i64 0, .int .i64 0, .slice none 0 0, .bool false, .int .i64 0, .int .i64 0, .int .i64 0, .int .i64 0, .int .i64 0, .int .i64 0, .int .i64 0, .slice none 0 0, .bool false, .int .i64 0, .int .i64 0, .int .i64 0, .int .i64 0, .int .i64 0, .int .i64 0, .int .i64 0, .slice none 0 0, .bool false, .int .i64 0, .int .i64 0, .int .i64 0, .int .i64 0, .int .i64 0, .int .i64 0, .int .i64 0, .slice none 0 0, .bool false, .int .i64 0, .int .i64 0, .int .i64 0, .int .i64 0, .int .i64 0, .int .i64 0, .int .i64 0, .slice none 0 0, .bool false]
abbrev smB (b s : Nat) : Nat × Blk := (b, .cells [ptrB s] 174)
theorem smisof_spec (g cap : Nat) (id n : Int) : Spec Tryz.prog 302 [.int .i64 id, .slice (some ⟨g, 0, none⟩) 1 cap] [(g, .cells [.int .i64 n] 3)] fun v H' => v = .bool (decide (n = id)) ∧ H' = [(g, .cells [.int .i64 n] 3)] := by
  refine Spec_body Tryz.func302 rfl Tryz.ntmps302 rfl (fun w0 => ?_)
  repeat (first | refine stepA ?_ | intro _)
  refine W_loop (fun k : Nat => [(0, .int .i64 id), (7, .slice (some ⟨g, 0, none⟩) 1 cap), (8, .int .i64 1), (9, .int .i64 (k : Int))]) (fun _ => [(g, .cells [.int .i64 n] 3)]) (fun k => k ≤ 1 ∧ (k = 1 → n ≠ id)) (fun k => 1 - k) 0 ⟨by omega, fun h => absurd h (by omega)⟩ sublA subA ?_
  rintro k ⟨hk, he⟩
  by_cases h0 : k = 0
  · subst h0
    by_cases h1 : n = id
    · rw [decide_eq_true h1]
      repeat (first | refine stepA ?_ | intro _)
      (first | refine retA ?_ | refine retB ?_); exact ⟨_, ⟨rfl, rfl⟩, subA⟩
    · repeat (first | refine stepA ?_ | intro _)
      exact ⟨rfl, 1, ⟨by omega, fun _ => h1⟩, by omega, sublA, subA⟩
  · obtain rfl : k = 1 := by omega
    rw [decide_eq_false (he rfl)]
    repeat (first | refine stepA ?_ | intro _)
    (first | refine retA ?_ | refine retB ?_); exact ⟨_, ⟨rfl, rfl⟩, subA⟩
theorem small_spec (s : Nat) : Spec Tryz.prog 345 [ptrB s] [] fun v H' => ∃ b, v = .func (.func 406) #[] #[ptrB b] ∧ H' = [smB b s] := by
  refine Spec_body Tryz.func345 rfl Tryz.ntmps345 rfl (fun w0 => ?_)
  repeat (first | refine stepA ?_ | intro _)
  rename_i b
  (first | refine retA ?_ | refine retB ?_)
  exact ⟨_, ⟨b, rfl, rfl⟩, subA⟩
/-- an iterator that is left in its first round -/
theorem small_iter (b s : Nat) (q : Int) (hq : 0 ≤ q ∧ q ≤ 4095) (o : ThV) (h : Bool) (Z : List Value) : IterOkC Tryz.prog 406 [ptrB b]
    (fun (I J : Unit → Hp → Prop) => (∀ H, I () H → ∃ R, Cut [smB b s, smK s q o h Z] H R) ∧ ∀ H, ¬ J () H)
    (fun _ => True) (fun _ => [.int .i64 (8 * q), .pointer (some ⟨s, 0, none⟩)]) (fun _ => False) () := by
  unfold IterOkC
  rintro y I J S ⟨hA, hN⟩ hy H h0
  obtain ⟨R, hcut⟩ := hA H h0
  refine Spec_body Tryz.func406 rfl Tryz.ntmps406 rfl (fun w0 => ?_)
  refine W_perm hcut.perm ?_
  simp only [List.cons_append, List.nil_append]
  repeat (first | refine stepA ?_ | intro _)
  refine W_loop (fun _ : Unit => [(0, .func (.yield y) #[] #[]), (1, ptrB b), (5, .int .i64 0)]) (fun _ => H) (fun _ => True) (fun _ => 0) () trivial sublA (Sub.ofPerm hcut.perm) ?_
  rintro ⟨⟩ -
  refine W_perm hcut.perm ?_
  simp only [List.cons_append, List.nil_append]
  repeat (first | refine stepA ?_ | intro _)
  have hyk := hy () H h0 trivial
  rw [Int.add_zero]
  refine L_yield rfl (ev_of rfl (by with_reducible rfl)) rfl hyk (R0 := []) ?_ ?_
  · rw [List.append_nil]
    exact hcut.perm.symm
  · rintro b H' hb
    rw [List.append_nil]
    rcases hb with ⟨rfl, hb⟩ | ⟨rfl, hb⟩
    · exact absurd hb (hN _)
    · repeat (first | refine stepA ?_ | intro _)
      (first | refine retA ?_ | refine retB ?_)
      exact ⟨_, .inr hb, Sub.refl _⟩
section
variable {X : Cx} {Q : PostT} {l : St} {ds : List Deferred} {H : Hp}
/-- a range over slots that is left in its first round -/
theorem W_slotM {g : Operand} {ps : List Nat} {assign body : Code} {b s : Nat} {q : Int} {o : ThV} {h : Bool} {Z : List Value} {Hc : Hp} {cd : Code} (hP : X.P = Tryz.prog) (hro : X.ro = none) (hg : ev l g = some (.func (.func 406) #[] [ptrB b].toArray))
    (hq : 0 ≤ q ∧ q ≤ 4095) (hps : ps.length = 2) (hpn : ∀ p ∈ ps, p < X.n) (hc : ∃ R, Cut [smB b s, smK s q o h Z] Hc R) (hs : Sub Hc H) (Sx : Hp → Prop)
    (hbody : ∀ y w1, W ⟨some y, X.P, X.n, w1, keys Hc⟩ assign
      (fun e l1 ds1 H1 => e = .normal ∧ ∀ w2, W ⟨some y, X.P, X.n, w2, keys H1⟩ body (roundQ (fun (_ : Unit) _ => False) (fun c H => c = cd ∧ Sx H) ()) l1 ds1 H1) (zips ps [.int .i64 (8 * q), .pointer (some ⟨s, 0, none⟩)] l) [] Hc)
    (hstop : ∀ D H1, Sx H1 → W X cd Q l ({ target := .collected D, args := #[] } :: ds) ((D, .oth (.deferred (some []))) :: H1)) :
    W X (.rangeFunc g ps.toArray assign body) Q l ds H := by
  obtain ⟨R, hc⟩ := hc
  have inst : FnOk Tryz.prog 406 := inferInstance
  have inst2 : FnOk X.P 406 := by rw [hP]; exact inst
  have it := small_iter b s q hq o h Z
  rw [← hP] at it
  refine W_rangeC hro hg inst2 it (fun s => hps.symm) hpn (fun _ H => H = Hc) (fun _ _ => False) (fun c H => c = cd ∧ Sx H) (fun u v => ⟨?_, ?_⟩) ⟨_, rfl, hs⟩ ?_ ?_ ?_
  · rintro H ⟨_, rfl, rfl⟩
    cases hc with
    | cons h1 h2 =>
      cases h2 with
      | cons h3 h4 =>
        exact ⟨_, .cons (.there (.there h1)) (.cons (.there (.there h3)) .nil)⟩
  · rintro H ⟨_, h, _⟩
    exact h
  · rintro y k H w1 rfl -
    exact hbody y w1
  · rintro D k H h
    exact h.elim
  · rintro D c H ⟨rfl, h⟩
    exact hstop D H h
end
section
variable (s : Nat) (q : Int) (Z : List Value)
theorem smadd_spec (hq : 0 ≤ q ∧ q ≤ 4095) (v : ThV) : Spec Tryz.prog 255 [ptrB s, .agg v.cells.toArray] [smK s q th0 false Z] fun u H' => u = .tuple #[.int .i64 (8 * q), .int .i64 0] ∧ H' = [smK s q v true Z] := by
  refine Spec_body Tryz.func255 rfl Tryz.ntmps255 rfl (fun w0 => ?_)
  repeat (first | refine stepA ?_ | intro _)
  rename_i b3 b4 b5
  refine callA ?_; refine ⟨_, _, small_spec s, _, cutA, ?_⟩
  rintro u H' ⟨b, rfl, rfl⟩
  simp only [List.cons_append, List.nil_append]
  repeat (first | refine stepA ?_ | intro _)
  refine W_slotM (b := b) (s := s) (q := q) (o := th0) (h := false) (Z := Z) (Hc := [smB b s, (b5, .cells [.int .i64 0] 29), (b4, .cells [.int .i64 0] 3), (b3, .cells v.cells 177), smK s q th0 false Z]) (cd := .ret) rfl rfl (ev_of rfl (by with_reducible rfl)) hq rfl (by simp) ⟨_, cutA⟩ subA (fun H => H = [(b5, .cells [.int .i64 0] 29), (b4, .cells [.int .i64 (8 * q)] 3), smK s q v true Z]) ?_ ?_
  · intro y w1
    repeat (first | refine stepA ?_ | intro _)
    refine ⟨rfl, fun w2 => ?_⟩
    iterate 18 (first | refine stepA ?_ | intro _)
    refine L_store (cs := v.cells) (Ln := .int .i64 q :: (v.cells ++ (.bool false :: Z))) evA evA rfl rfl (fun u hu => List.all_eq_true.1 (show List.all v.cells (fun u => u.oneCell') = true from rfl) u hu) repA rfl (by simp) ?_
    repeat (first | refine stepA ?_ | intro _)
    exact roundQ_r ⟨rfl, rfl⟩ subT
  · rintro D H1 rfl
    repeat (first | refine stepA ?_ | intro _)
    (first | refine retA ?_ | refine retB ?_); exact ⟨_, ⟨rfl, rfl⟩, subA⟩
abbrev thB (b : Nat) (o : ThV) : Nat × Blk := (b, .cells o.cells 177)
theorem smget1_spec (bo : Nat) (o o2 : ThV) (h : Bool) : Spec Tryz.prog 407 [ptrB s, ptrB bo] [smK s q o h Z, thB bo o2] fun _ H' => H' = [smK s q o h Z, thB bo o] := by
  refine Spec_body Tryz.func407 rfl Tryz.ntmps407 rfl (fun w0 => ?_)
  iterate 5 (first | refine stepA ?_ | intro _)
  refine L_store (cs := o.cells) (Ln := o.cells) evA evA rfl rfl (fun u hu => List.all_eq_true.1 (show List.all o.cells (fun u => u.oneCell') = true from rfl) u hu) repA rfl (by simp) ?_
  repeat (first | refine stepA ?_ | intro _)
  (first | refine retA ?_ | refine retB ?_)
  exact ⟨_, rfl, subA⟩
/-- something is done with the first slot -/
theorem smwith_spec (hq : 0 ≤ q ∧ q ≤ 4095) (o : ThV) {f : FuncId} (inst : FnOk Tryz.prog f) (caps : List Value) (Hd : Hp) (Rd : Hp → Prop)
    (hd : Spec Tryz.prog f (ptrB s :: caps) (smK s q o true Z :: Hd) fun _ H' => Rd H') :
    Spec Tryz.prog 351 [ptrB s, .int .i64 (8 * q), .func (.func f) #[] caps.toArray] (smK s q o true Z :: Hd) fun v H' => v = .int .i64 0 ∧ Rd H' := by
  refine Spec_body Tryz.func351 rfl Tryz.ntmps351 rfl (fun w0 => ?_)
  repeat (first | refine stepA ?_ | intro _)
  rename_i b4 b5 b7
  refine callA ?_; refine ⟨_, _, small_spec s, _, cutA, ?_⟩
  rintro u H' ⟨b, rfl, rfl⟩
  simp only [List.cons_append, List.nil_append]
  repeat (first | refine stepA ?_ | intro _)
  refine W_slotM (b := b) (s := s) (q := q) (o := o) (h := true) (Z := Z) (Hc := smB b s :: (b7, .cells [.int .i64 100] 29) :: (b5, .cells [.func (.func f) #[] caps.toArray] 536) :: (b4, .cells [.int .i64 (8 * q)] 3) :: smK s q o true Z :: Hd) (cd := .exit 0) rfl rfl (ev_of rfl (by with_reducible rfl)) hq rfl (by simp) ⟨_, cutA⟩ subT (fun H => ∃ H2, Rd H2 ∧ H = (b7, .cells [.int .i64 0] 29) :: H2) ?_ ?_
  · intro y w1
    repeat (first | refine stepA ?_ | intro _)
    refine ⟨rfl, fun w2 => ?_⟩
    repeat (first | refine stepA ?_ | intro _)
    rename_i g
    refine callA ?_; refine ⟨_, _, smisof_spec g 1 (8 * q) (8 * q), _, cutA, ?_⟩
    rintro v H' ⟨rfl, rfl⟩
    simp only [List.cons_append, List.nil_append, decide_true]
    repeat (first | refine stepA ?_ | intro _)
    refine callT ?_
    refine ⟨_, _, hd, _, cutT, ?_⟩
    rintro v H' hR
    simp only [List.cons_append, List.nil_append]
    repeat (first | refine stepA ?_ | intro _)
    exact roundQ_e ⟨rfl, _, hR, rfl⟩ subT
  · rintro D H1 ⟨H2, hR, rfl⟩
    repeat (first | refine stepA ?_ | intro _)
    (first | refine retA ?_ | refine retB ?_)
    exact ⟨_, ⟨rfl, hR⟩, subT⟩
theorem smget_spec (hq : 0 ≤ q ∧ q ≤ 4095) (o : ThV) : Spec Tryz.prog 346 [ptrB s, .int .i64 (8 * q)] [smK s q o true Z] fun v H' => v = .tuple #[.agg o.cells.toArray, .int .i64 0] ∧ H' = [smK s q o true Z] := by
  have inst : FnOk Tryz.prog 407 := inferInstance
  refine Spec_body Tryz.func346 rfl Tryz.ntmps346 rfl (fun w0 => ?_)
  repeat (first | refine stepA ?_ | intro _)
  rename_i b6
  refine callA ?_; refine ⟨_, _, smwith_spec s q Z hq o inst [ptrB b6] [thB b6 th0] (fun H' => H' = [smK s q o true Z, thB b6 o]) (smget1_spec s q Z b6 o th0 true), _, cutA, ?_⟩
  rintro v H' ⟨rfl, rfl⟩
  simp only [List.cons_append, List.nil_append]
  repeat (first | refine stepA ?_ | intro _)
  (first | refine retA ?_ | refine retB ?_); exact ⟨_, ⟨rfl, rfl⟩, subA⟩
theorem smset1_spec (bo : Nat) (o o2 : ThV) (h : Bool) : Spec Tryz.prog 352 [ptrB s, ptrB bo] [smK s q o h Z, thB bo o2] fun _ H' => H' = [smK s q o2 h Z, thB bo o2] := by
  refine Spec_body Tryz.func352 rfl Tryz.ntmps352 rfl (fun w0 => ?_)
  iterate 5 (first | refine stepA ?_ | intro _)
  refine L_store (cs := o2.cells) (Ln := .int .i64 q :: (o2.cells ++ (.bool h :: Z))) evA evA rfl rfl (fun u hu => List.all_eq_true.1 (show List.all o2.cells (fun u => u.oneCell') = true from rfl) u hu) repA rfl (by simp) ?_
  repeat (first | refine stepA ?_ | intro _)
  (first | refine retA ?_ | refine retB ?_)
  exact ⟨_, rfl, subA⟩
theorem smset_spec (hq : 0 ≤ q ∧ q ≤ 4095) (o o2 : ThV) : Spec Tryz.prog 259 [ptrB s, .int .i64 (8 * q), .agg o2.cells.toArray] [smK s q o true Z] fun v H' => v = .int .i64 0 ∧ H' = [smK s q o2 true Z] := by
  have inst : FnOk Tryz.prog 352 := inferInstance
  refine Spec_body Tryz.func259 rfl Tryz.ntmps259 rfl (fun w0 => ?_)
  repeat (first | refine stepA ?_ | intro _)
  rename_i b5
  refine callA ?_; refine ⟨_, _, smwith_spec s q Z hq o inst [ptrB b5] [thB b5 o2] (fun H' => H' = [smK s q o2 true Z, thB b5 o2]) (smset1_spec s q Z b5 o o2 true), _, cutA, ?_⟩
  rintro v H' ⟨rfl, rfl⟩
  simp only [List.cons_append, List.nil_append]
  repeat (first | refine stepA ?_ | intro _)
  (first | refine retA ?_ | refine retB ?_); exact ⟨_, ⟨rfl, rfl⟩, subA⟩
end
end Go.Proofs.YtcpfmjlceoiofaaGreatDoor

/-
  Credentials: are, Right, RightPerm, Make; Bits and Allowed of the root.
-/
namespace Go.Proofs.YtcpfmjlceoiofaaGreatDoor
open Go.RowKit
attribute [local irreducible] W L QL PureOp thenQ blockQ retQ Spec IterOk YSpec roundQ scopeQ noGoQ
attribute [local irreducible] AS ASi IterOkC retD retE
set_option maxHeartbeats 6400000
set_option maxRecDepth 4000
theorem cuser_spec (g cap : Nat) (xs : List Int) (hl : xs.length ≤ 1000) :
    Spec Tryz.prog 317 [.slice (some ⟨g, 0, none⟩) xs.length cap] [(g, .cells (ints xs) 3)] fun v H' => v = .bool (xs.all (inB 65535)) ∧ H' = [(g, .cells (ints xs) 3)] := by
  refine Spec_body Tryz.func317 rfl Tryz.ntmps317 rfl (fun w0 => ?_)
  repeat (first | refine stepA ?_ | intro _)
  refine W_loop (fun k : Nat => [(5, .slice (some ⟨g, 0, none⟩) xs.length cap), (6, .int .i64 xs.length), (7, .int .i64 k)]) (fun _ => [(g, .cells (ints xs) 3)])
    (fun k => k ≤ xs.length ∧ (xs.take k).all (inB 65535) = true) (fun k => xs.length - k) 0 ⟨by omega, by simp⟩ sublA subA ?_
  rintro k ⟨hk, hall⟩
  by_cases hlt : k < xs.length
  · obtain ⟨x, hx, hc⟩ := ints_get hlt
    by_cases h0 : 0 ≤ x
    · by_cases h1 : x ≤ 65535
      · repeat (first | refine stepA ?_ | intro _)
        (first | (refine ldA ?_; refine ⟨_, hc, ?_⟩) | (refine qldA ?_; refine ⟨_, hc, ?_⟩) | skip)
        repeat (first | refine stepA ?_ | intro _)
        exact ⟨rfl, k + 1, ⟨by omega, all_take_succ hx hall (by simp [inB, h0, h1])⟩, by omega, sublA, subA⟩
      · repeat (first | refine stepA ?_ | intro _)
        (first | (refine ldA ?_; refine ⟨_, hc, ?_⟩) | (refine qldA ?_; refine ⟨_, hc, ?_⟩) | skip)
        repeat (first | refine stepA ?_ | intro _)
        (first | refine retA ?_ | refine retB ?_); exact ⟨_, ⟨by rw [all_false_of hx (by simp [inB, h1])]; rfl, rfl⟩, subA⟩
    · repeat (first | refine stepA ?_ | intro _)
      (first | (refine ldA ?_; refine ⟨_, hc, ?_⟩) | (refine qldA ?_; refine ⟨_, hc, ?_⟩) | skip)
      repeat (first | refine stepA ?_ | intro _)
      (first | refine retA ?_ | refine retB ?_); exact ⟨_, ⟨by rw [all_false_of hx (by simp [inB, h0])]; rfl, rfl⟩, subA⟩
  · repeat (first | refine stepA ?_ | intro _)
    (first | refine retA ?_ | refine retB ?_); exact ⟨_, ⟨by rw [← List.take_of_length_le (show xs.length ≤ k by omega), hall]; rfl, rfl⟩, subA⟩
theorem cright_ok (u g : Int) (hu : inB 65535 u = true) (hg : inB 65535 g = true) : Spec Tryz.prog 212 [.agg #[.int .i64 u, .int .i64 g]] [] fun v H' => v = .bool true ∧ H' = [] := by
  refine Spec_body Tryz.func212 rfl Tryz.ntmps212 rfl (fun w0 => ?_)
  repeat (first | refine stepA ?_ | intro _)
  rename_i b1 b2
  have ha := cuser_spec b2 2 [u, g] (by simp)
  have e : [u, g].all (inB 65535) = true := by simp [hu, hg]
  rw [e] at ha
  refine callA ?_; refine ⟨_, _, ha, _, cutA, ?_⟩
  rintro v H' ⟨rfl, rfl⟩
  simp only [List.cons_append, List.nil_append]
  repeat (first | refine stepA ?_ | intro _)
  (first | refine retA ?_ | refine retB ?_); exact ⟨_, ⟨rfl, rfl⟩, subA⟩
theorem crightP_ok (u g cu cg md : Int) (hu : inB 65535 u = true) (hg : inB 65535 g = true) (hcu : inB 65535 cu = true) (hcg : inB 65535 cg = true) (hm : 0 ≤ md ∧ md ≤ 511) : Spec Tryz.prog 285 [.agg #[.int .i64 u, .int .i64 g, .int .i64 cu, .int .i64 cg, .int .i64 md]] [] fun v H' => v = .bool true ∧ H' = [] := by
  refine Spec_body Tryz.func285 rfl Tryz.ntmps285 rfl (fun w0 => ?_)
  obtain ⟨h1, h2⟩ := hm
  repeat (first | refine stepA ?_ | intro _)
  rename_i b1 b2
  have ha := cuser_spec b2 4 [u, g, cu, cg] (by simp)
  have e : [u, g, cu, cg].all (inB 65535) = true := by simp [hu, hg, hcu, hcg]
  rw [e] at ha
  refine callA ?_; refine ⟨_, _, ha, _, cutA, ?_⟩
  rintro v H' ⟨rfl, rfl⟩
  simp only [List.cons_append, List.nil_append]
  repeat (first | refine stepA ?_ | intro _)
  (first | refine retA ?_ | refine retB ?_); exact ⟨_, ⟨rfl, rfl⟩, subA⟩
theorem cmake_ok (u g md : Int) (hu : inB 65535 u = true) (hg : inB 65535 g = true) (hm : 0 ≤ md ∧ md ≤ 511) : Spec Tryz.prog 229 [.agg #[.int .i64 u, .int .i64 g], .int .i64 md] [] fun v H' => v = .tuple #[.agg #[.int .i64 u, .int .i64 g, .int .i64 u, .int .i64 g, .int .i64 md], .int .i64 0] ∧ H' = [] := by
  refine Spec_body Tryz.func229 rfl Tryz.ntmps229 rfl (fun w0 => ?_)
  repeat (first | refine stepA ?_ | intro _)
  refine callA ?_; refine ⟨_, _, crightP_ok u g u g md hu hg hu hg hm, _, cutA, ?_⟩
  rintro v H' ⟨rfl, rfl⟩
  simp only [List.cons_append, List.nil_append]
  repeat (first | refine stepA ?_ | intro _)
  (first | refine retA ?_ | refine retB ?_); exact ⟨_, ⟨rfl, rfl⟩, subA⟩
theorem cbits_root (g : Int) (p1 p2 p3 p4 md : Int) (hg : inB 65535 g = true) (hu : inB 65535 p1 = true) (hg2 : inB 65535 p2 = true) (hcu : inB 65535 p3 = true) (hcg : inB 65535 p4 = true) (hm : 0 ≤ md ∧ md ≤ 511) : Spec Tryz.prog 227 [.agg #[.int .i64 0, .int .i64 g], .agg #[.int .i64 p1, .int .i64 p2, .int .i64 p3, .int .i64 p4, .int .i64 md]] [] fun v H' => v = .int .i64 7 ∧ H' = [] := by
  refine Spec_body Tryz.func227 rfl Tryz.ntmps227 rfl (fun w0 => ?_)
  repeat (first | refine stepA ?_ | intro _)
  refine callA ?_; refine ⟨_, _, cright_ok 0 g (by decide) hg, _, cutA, ?_⟩
  rintro v H' ⟨rfl, rfl⟩
  simp only [List.cons_append, List.nil_append]
  repeat (first | refine stepA ?_ | intro _)
  refine callA ?_; refine ⟨_, _, crightP_ok p1 p2 p3 p4 md hu hg2 hcu hcg hm, _, cutA, ?_⟩
  rintro v H' ⟨rfl, rfl⟩
  simp only [List.cons_append, List.nil_append]
  repeat (first | refine stepA ?_ | intro _)
  (first | refine retA ?_ | refine retB ?_); exact ⟨_, ⟨rfl, rfl⟩, subA⟩
theorem callowed_root (g : Int) (p1 p2 p3 p4 md want : Int) (hg : inB 65535 g = true) (hu : inB 65535 p1 = true) (hg2 : inB 65535 p2 = true) (hcu : inB 65535 p3 = true) (hcg : inB 65535 p4 = true) (hm : 0 ≤ md ∧ md ≤ 511) (hw : want = 4 ∨ want = 2) : Spec Tryz.prog 236 [.agg #[.int .i64 0, .int .i64 g], .agg #[.int .i64 p1, .int .i64 p2, .int .i64 p3, .int .i64 p4, .int .i64 md], .int .i64 want] [] fun v H' => v = .int .i64 0 ∧ H' = [] := by
  rcases hw with rfl | rfl
  · refine Spec_body Tryz.func236 rfl Tryz.ntmps236 rfl (fun w0 => ?_)
    repeat (first | refine stepA ?_ | intro _)
    refine callA ?_; refine ⟨_, _, cright_ok 0 g (by decide) hg, _, cutA, ?_⟩
    rintro v H' ⟨rfl, rfl⟩
    simp only [List.cons_append, List.nil_append]
    repeat (first | refine stepA ?_ | intro _)
    refine callA ?_; refine ⟨_, _, crightP_ok p1 p2 p3 p4 md hu hg2 hcu hcg hm, _, cutA, ?_⟩
    rintro v H' ⟨rfl, rfl⟩
    simp only [List.cons_append, List.nil_append]
    repeat (first | refine stepA ?_ | intro _)
    refine callA ?_; refine ⟨_, _, cbits_root g p1 p2 p3 p4 md hg hu hg2 hcu hcg hm, _, cutA, ?_⟩
    rintro v H' ⟨rfl, rfl⟩
    simp only [List.cons_append, List.nil_append]
    repeat (first | refine stepA ?_ | intro _)
    (first | (apply L_P; (· exact rfl); (· exact rfl)) | (apply QL_P; (· exact rfl)))
    · exact P_and (z := 4) (ev_of rfl rfl) (ev_of rfl rfl) (by decide)
    repeat (first | refine stepA ?_ | intro _)
    (first | refine retA ?_ | refine retB ?_); exact ⟨_, ⟨rfl, rfl⟩, subA⟩
  · refine Spec_body Tryz.func236 rfl Tryz.ntmps236 rfl (fun w0 => ?_)
    repeat (first | refine stepA ?_ | intro _)
    refine callA ?_; refine ⟨_, _, cright_ok 0 g (by decide) hg, _, cutA, ?_⟩
    rintro v H' ⟨rfl, rfl⟩
    simp only [List.cons_append, List.nil_append]
    repeat (first | refine stepA ?_ | intro _)
    refine callA ?_; refine ⟨_, _, crightP_ok p1 p2 p3 p4 md hu hg2 hcu hcg hm, _, cutA, ?_⟩
    rintro v H' ⟨rfl, rfl⟩
    simp only [List.cons_append, List.nil_append]
    repeat (first | refine stepA ?_ | intro _)
    refine callA ?_; refine ⟨_, _, cbits_root g p1 p2 p3 p4 md hg hu hg2 hcu hcg hm, _, cutA, ?_⟩
    rintro v H' ⟨rfl, rfl⟩
    simp only [List.cons_append, List.nil_append]
    repeat (first | refine stepA ?_ | intro _)
    (first | (apply L_P; (· exact rfl); (· exact rfl)) | (apply QL_P; (· exact rfl)))
    · exact P_and (z := 2) (ev_of rfl rfl) (ev_of rfl rfl) (by decide)
    repeat (first | refine stepA ?_ | intro _)
    (first | refine retA ?_ | refine retB ?_); exact ⟨_, ⟨rfl, rfl⟩, subA⟩
end Go.Proofs.YtcpfmjlceoiofaaGreatDoor

/-
  Names of queues: find, Find, Put, at the first slot.
-/
namespace Go.Proofs.YtcpfmjlceoiofaaGreatDoor
open Go.RowKit
attribute [local irreducible] W L QL PureOp thenQ blockQ retQ Spec IterOk YSpec roundQ scopeQ noGoQ
attribute [local irreducible] AS ASi IterOkC retD retE
set_option maxHeartbeats 6400000
set_option maxRecDepth 4000
theorem ipfirst_ok (g cap : Nat) : Spec Tryz.prog 235 [.slice (some ⟨g, 0, none⟩) 1 cap] [(g, .cells [.int .i64 0] 29)] fun v H' => v = .nilIface ∧ H' = [(g, .cells [.int .i64 0] 29)] := by
  refine Spec_body Tryz.func235 rfl Tryz.ntmps235 rfl (fun w0 => ?_)
  repeat (first | refine stepA ?_ | intro _)
  refine W_loop (fun k : Nat => [(5, .slice (some ⟨g, 0, none⟩) 1 cap), (6, .int .i64 1), (7, .int .i64 (k : Int))]) (fun _ => [(g, .cells [.int .i64 0] 29)]) (fun k => k ≤ 1) (fun k => 1 - k) 0 (by omega) sublA subA ?_
  rintro k hk
  by_cases h0 : k = 0
  · subst h0
    repeat (first | refine stepA ?_ | intro _)
    exact ⟨rfl, 1, by omega, by omega, sublA, subA⟩
  · obtain rfl : k = 1 := by omega
    repeat (first | refine stepA ?_ | intro _)
    (first | refine retA ?_ | refine retB ?_); exact ⟨_, ⟨rfl, rfl⟩, subA⟩
abbrev nmB (b s : Nat) : Nat × Blk := (b, .cells [ptrB s] 179)
section
variable (b s : Nat) (q : Int) (Z : List Value)
theorem ipfind_spec (hq : 0 ≤ q ∧ q ≤ 4095) (o : ThV) : Spec Tryz.prog 256 [ptrB b, .int .i64 (8 * q)] [nmB b s, smK s q o true Z] fun v H' => v = .tuple #[.agg o.cells.toArray, .nilIface] ∧ H' = [nmB b s, smK s q o true Z] := by
  have hget := smget_spec s q Z hq o
  refine Spec_body Tryz.func256 rfl Tryz.ntmps256 rfl (fun w0 => ?_)
  repeat (first | refine stepA ?_ | intro _)
  refine callA ?_; refine ⟨_, _, hget, _, cutA, ?_⟩
  rintro v H' ⟨rfl, rfl⟩
  simp only [List.cons_append, List.nil_append]
  repeat (first | refine stepA ?_ | intro _)
  rename_i b4 b6
  refine W_any [(b6, .cells o.cells 177)] [4] rfl ?_
  refine AS_at 0 (by decide +kernel) ?_; refine takeA ?_
  refine AS_at 1 (by decide +kernel) ?_; refine takeA ?_
  refine AS_one 2 rfl (by decide +kernel) rfl ?_
  refine stepA ?_
  intro g
  refine L_nil ?_; refine ⟨rfl, (by first | exact KeepsH.brk (by decide +kernel) | exact KeepsH.sub subA | exact KeepsH.sub subT), ?_⟩
  refine AS_one 3 rfl (by decide +kernel) rfl ?_
  refine callA ?_; refine ⟨_, _, ipfirst_ok g 1, _, cutA, ?_⟩
  rintro v H' ⟨rfl, rfl⟩
  simp only [List.cons_append, List.nil_append]
  refine L_nil ?_; refine ⟨rfl, (by first | exact KeepsH.brk (by decide +kernel) | exact KeepsH.sub subA | exact KeepsH.sub subT), ?_⟩
  refine AS_one 4 rfl (by decide +kernel) rfl ?_
  refine L_store (cs := o.cells) (Ln := o.cells) evA evA rfl rfl (fun u hu => List.all_eq_true.1 (show List.all o.cells (fun u => u.oneCell') = true from rfl) u hu) repA rfl (by simp) ?_
  refine L_nil ?_; refine ⟨rfl, (by first | exact KeepsH.brk (by decide +kernel) | exact KeepsH.sub subA | exact KeepsH.sub subT), ?_⟩
  refine AS_at 5 (by decide +kernel) ?_; refine takeA ?_
  refine AS_done (by decide +kernel) ?_
  repeat (first | refine stepA ?_ | intro _)
  (first | refine retA ?_ | refine retB ?_); exact ⟨_, ⟨rfl, rfl⟩, subA⟩
structure ThR (o : ThV) : Prop where
  u : inB 65535 o.u = true
  g : inB 65535 o.g = true
  cu : inB 65535 o.cu = true
  cg : inB 65535 o.cg = true
  md : 0 ≤ o.md ∧ o.md ≤ 511
theorem ipFind_spec (hq : 0 ≤ q ∧ q ≤ 4095) (o : ThV) (hr : ThR o) (gid want : Int) (hg : inB 65535 gid = true) (hw : want = 4 ∨ want = 2) : Spec Tryz.prog 144 [ptrB b, .agg #[.int .i64 0, .int .i64 gid], .int .i64 (8 * q), .int .i64 want] [nmB b s, smK s q o true Z] fun v H' => v = .tuple #[.slice o.a o.n o.cap, .int .i64 0] ∧ H' = [nmB b s, smK s q o true Z] := by
  have hw0 : want ≠ 0 := by omega
  refine Spec_body Tryz.func144 rfl Tryz.ntmps144 rfl (fun w0 => ?_)
  repeat (first | refine stepA ?_ | intro _)
  refine callA ?_; refine ⟨_, _, ipfind_spec b s q Z hq o, _, cutA, ?_⟩
  rintro v H' ⟨rfl, rfl⟩
  simp only [List.cons_append, List.nil_append]
  repeat (first | refine stepA ?_ | intro _)
  (first | (apply L_P; (· exact rfl); (· exact rfl)) | (apply QL_P; (· exact rfl))); (· (apply P_eqIfT; (· exact evA)))
  repeat (first | refine stepA ?_ | intro _)
  refine callA ?_; refine ⟨_, _, callowed_root gid o.u o.g o.cu o.cg o.md want hg hr.u hr.g hr.cu hr.cg hr.md hw, _, cutA, ?_⟩
  rintro v H' ⟨rfl, rfl⟩
  simp only [List.cons_append, List.nil_append]
  repeat (first | refine stepA ?_ | intro _)
  rename_i g
  refine callA ?_; refine ⟨_, _, ipfirst_ok g 1, _, cutA, ?_⟩
  rintro v H' ⟨rfl, rfl⟩
  simp only [List.cons_append, List.nil_append]
  repeat (first | refine stepA ?_ | intro _)
  (first | (apply L_P; (· exact rfl); (· exact rfl)) | (apply QL_P; (· exact rfl))); (· (apply P_neIfT; (· exact evA)))
  repeat (first | refine stepA ?_ | intro _)
  (first | refine retA ?_ | refine retB ?_); exact ⟨_, ⟨rfl, rfl⟩, subA⟩
theorem ipPut_spec (hq : 0 ≤ q ∧ q ≤ 4095) (o : ThV) (a : Option Addr) (n cap : Nat) : Spec Tryz.prog 146 [ptrB b, .int .i64 (8 * q), .slice a n cap] [nmB b s, smK s q o true Z] fun v H' => v = .int .i64 0 ∧ H' = [nmB b s, smK s q { o with a := a, n := n, cap := cap } true Z] := by
  refine Spec_body Tryz.func146 rfl Tryz.ntmps146 rfl (fun w0 => ?_)
  repeat (first | refine stepA ?_ | intro _)
  refine callA ?_; refine ⟨_, _, ipfind_spec b s q Z hq o, _, cutA, ?_⟩
  rintro v H' ⟨rfl, rfl⟩
  simp only [List.cons_append, List.nil_append]
  repeat (first | refine stepA ?_ | intro _)
  (first | (apply L_P; (· exact rfl); (· exact rfl)) | (apply QL_P; (· exact rfl))); (· (apply P_neIfT; (· exact evA)))
  repeat (first | refine stepA ?_ | intro _)
  rename_i b7
  obtain ⟨o2, ho⟩ : ∃ o2 : ThV, o2 = { o with a := a, n := n, cap := cap } := ⟨_, rfl⟩
  have e : (b7, Blk.cells [.int .i64 o.u, .int .i64 o.g, .int .i64 o.cu, .int .i64 o.cg, .int .i64 o.md, .int .i64 o.key, .slice a n cap] 177) = (b7, .cells o2.cells 177) := by rw [ho]
  rw [← ho, e]
  refine W_any [(b7, .cells o2.cells 177), nmB b s] [] rfl ?_
  refine AS_at 0 (by decide +kernel) ?_; refine takeA ?_
  refine AS_at 1 (by decide +kernel) ?_; refine takeA ?_
  refine AS_at 2 (by decide +kernel) ?_; refine takeA ?_
  refine AS_at 3 (by decide +kernel) ?_; refine takeA ?_
  refine AS_at 4 (by decide +kernel) ?_; refine takeA ?_
  refine AS_at 5 (by decide +kernel) ?_; refine takeA ?_
  refine AS_one 6 rfl (by decide +kernel) rfl ?_
  refine callA ?_; refine ⟨_, _, smset_spec s q Z hq o o2, _, cutA, ?_⟩
  rintro v H' ⟨rfl, rfl⟩
  simp only [List.cons_append, List.nil_append]
  refine L_nil ?_; refine ⟨rfl, (by first | exact KeepsH.brk (by decide +kernel) | exact KeepsH.sub subA | exact KeepsH.sub subT), ?_⟩
  refine AS_at 7 (by decide +kernel) ?_; refine takeA ?_
  refine AS_done (by decide +kernel) ?_
  repeat (first | refine stepA ?_ | intro _)
  (first | refine retA ?_ | refine retB ?_); exact ⟨_, ⟨rfl, rfl⟩, subA⟩
end
end Go.Proofs.YtcpfmjlceoiofaaGreatDoor

/-
  Names of queues: none yet: all, Ids, named; Get of a new one.
-/
namespace Go.Proofs.YtcpfmjlceoiofaaGreatDoor
open Go.RowKit
attribute [local irreducible] W L QL PureOp thenQ blockQ retQ Spec IterOk YSpec roundQ scopeQ noGoQ
attribute [local irreducible] AS ASi IterOkC retD retE
set_option maxHeartbeats 6400000
set_option maxRecDepth 4000
abbrev smEC : List Value := .int .i64 0 :: .int .i64 0 :: .int .i64 0 :: .int .i64 0 :: .int .i64 0 :: .int .i64 0 :: .int .i64 0 :: .slice none 0 0 :: .bool false :: smZ
theorem smE_seq {k : Nat} (hk : k < 8) : smEC[0 + k * 9]? = some (.int .i64 0) := by
  match k, hk with
  | 0, _ | 1, _ | 2, _ | 3, _ | 4, _ | 5, _ | 6, _ | 7, _ => rfl
theorem smE_held {k : Nat} (hk : k < 8) : smEC[0 + k * 9 + 8]? = some (.bool false) := by
  match k, hk with
  | 0, _ | 1, _ | 2, _ | 3, _ | 4, _ | 5, _ | 6, _ | 7, _ => rfl
theorem small_all (b s : Nat) : IterOkC Tryz.prog 406 [ptrB b]
    (fun (I J : Nat → Hp → Prop) => (∀ k H, I k H → ∃ R, Cut [smB b s, smK s 0 th0 false smZ] H R) ∧ ∀ k H, k < 8 → J k H → I (k + 1) H)
    (fun k => k < 8) (fun k => [.int .i64 (k : Int), .pointer (some ⟨s, 0 + k * 9, none⟩)]) (fun k => k = 8) 0 := by
  unfold IterOkC
  rintro y I J S ⟨hA, hN⟩ hy H h0
  obtain ⟨R, hcut⟩ := hA 0 H h0
  refine Spec_body Tryz.func406 rfl Tryz.ntmps406 rfl (fun w0 => ?_)
  refine W_perm hcut.perm ?_
  simp only [List.cons_append, List.nil_append]
  repeat (first | refine stepA ?_ | intro _)
  refine W_loop (fun x : Nat × Hp => [(0, .func (.yield y) #[] #[]), (1, ptrB b), (5, .int .i64 (x.1 : Int))]) (fun x => x.2) (fun x => x.1 ≤ 8 ∧ I x.1 x.2) (fun x => 8 - x.1) (0, H) ⟨by simp only; omega, h0⟩ sublA (Sub.ofPerm hcut.perm) ?_
  rintro ⟨k, Hk⟩ ⟨hk, hIk⟩
  simp only at hk hIk ⊢
  obtain ⟨Rk, hck⟩ := hA k Hk hIk
  refine W_perm hck.perm ?_
  simp only [List.cons_append, List.nil_append]
  by_cases h8 : k < 8
  · have hs := smE_seq h8
    repeat (first | refine stepA ?_ | intro _)
    have e : (8 : Int) * 0 + (k : Int) = (k : Int) := by omega
    have hyk := hy k Hk hIk h8
    simp only at hyk
    try rw [e]
    refine L_yield rfl (ev_of rfl (by with_reducible rfl)) rfl hyk (R0 := []) ?_ ?_
    · rw [List.append_nil]
      exact hck.perm.symm
    · rintro b H' hb
      rw [List.append_nil]
      rcases hb with ⟨rfl, hb⟩ | ⟨rfl, hb⟩
      · repeat (first | refine stepA ?_ | intro _)
        have e1 : (k : Int) + 1 = ((k + 1 : Nat) : Int) := by omega
        rw [e1]
        exact ⟨rfl, (k + 1, H'), ⟨by simp only; omega, hN k H' h8 hb⟩, by simp only; omega, sublA, Sub.refl _⟩
      · repeat (first | refine stepA ?_ | intro _)
        (first | refine retA ?_ | refine retB ?_)
        exact ⟨_, .inr hb, Sub.refl _⟩
  · obtain rfl : k = 8 := by omega
    repeat (first | refine stepA ?_ | intro _)
    (first | refine retA ?_ | refine retB ?_)
    exact ⟨_, .inl ⟨_, rfl, hIk⟩, Sub.ofPerm (hck.perm.trans permA)⟩
abbrev smE (s : Nat) : Nat × Blk := smK s 0 th0 false smZ
theorem smids_spec (s : Nat) : Spec Tryz.prog 405 [ptrB s] [smE s] fun v H' => v = .slice none 0 0 ∧ H' = [smE s] := by
  refine Spec_body Tryz.func405 rfl Tryz.ntmps405 rfl (fun w0 => ?_)
  repeat (first | refine stepA ?_ | intro _)
  rename_i b3
  refine callA ?_; refine ⟨_, _, small_spec s, _, cutA, ?_⟩
  rintro u H' ⟨b, rfl, rfl⟩
  simp only [List.cons_append, List.nil_append]
  repeat (first | refine stepA ?_ | intro _)
  have inst : FnOk Tryz.prog 406 := inferInstance
  obtain ⟨Hc, hHc⟩ : ∃ Hc : Hp, Hc = [smB b s, (b3, .cells [.slice none 0 0] 22), smE s] := ⟨_, rfl⟩
  refine W_rangeC rfl (ev_of rfl (by with_reducible rfl)) inst (small_all b s) (fun _ => rfl) (by simp) (fun _ H => H = Hc) (fun _ H => H = Hc) (fun _ _ => False)
    (fun u v => ⟨by
      rintro k H ⟨_, rfl, rfl⟩
      rw [hHc]
      exact ⟨_, .cons (.there (.there .here)) (.cons (.there (.there (.there .here))) .nil)⟩, by
      rintro k H hk ⟨_, rfl, rfl⟩
      exact ⟨_, rfl, rfl⟩⟩) ⟨_, rfl, by rw [hHc]; exact subA⟩ ?_ ?_ ?_
  · rintro y k H w1 rfl hk
    have hh := smE_held hk
    rw [hHc]
    repeat (first | refine stepA ?_ | intro _)
    refine ⟨rfl, fun w2 => ?_⟩
    repeat (first | refine stepA ?_ | intro _)
    exact roundQ_n rfl subA
  · rintro D k H hk rfl
    rw [hHc]
    repeat (first | refine stepA ?_ | intro _)
    (first | refine retA ?_ | refine retB ?_); exact ⟨_, ⟨rfl, rfl⟩, subA⟩
  · rintro D c H h
    exact h.elim
abbrev nqB (b n : Nat) : Nat × Blk := (b, .cells [ptrB n] 63)
theorem ipall_spec (n : Nat) : Spec Tryz.prog 344 [ptrB n] [] fun v H' => ∃ b, v = .func (.func 404) #[] #[ptrB b] ∧ H' = [nqB b n] := by
  refine Spec_body Tryz.func344 rfl Tryz.ntmps344 rfl (fun w0 => ?_)
  repeat (first | refine stepA ?_ | intro _)
  rename_i b
  (first | refine retA ?_ | refine retB ?_)
  exact ⟨_, ⟨b, rfl, rfl⟩, subA⟩
theorem ipall_iter (b n s : Nat) : IterNil Tryz.prog 404 [ptrB b] [nqB b n, nmB n s, smE s] := by
  unfold IterNil
  intro y
  refine Spec_body Tryz.func404 rfl Tryz.ntmps404 rfl (fun w0 => ?_)
  repeat (first | refine stepA ?_ | intro _)
  refine callA ?_; refine ⟨_, _, smids_spec s, _, cutA, ?_⟩
  rintro v H' ⟨rfl, rfl⟩
  simp only [List.cons_append, List.nil_append]
  repeat (first | refine stepA ?_ | intro _)
  refine W_loop (fun _ : Unit => [(12, .int .i64 0), (13, .int .i64 0)]) (fun _ => [nqB b n, nmB n s, smE s]) (fun _ => True) (fun _ => 0) () trivial sublA subA ?_
  rintro ⟨⟩ -
  repeat (first | refine stepA ?_ | intro _)
  (first | refine retA ?_ | refine retB ?_)
  exact ⟨_, rfl, subA⟩
theorem ipnamed_spec (n s : Nat) (key : Int) : Spec Tryz.prog 254 [ptrB n, .int .i64 key] [nmB n s, smE s] fun v H' => v = .tuple #[.int .i64 0, .agg th0.cells.toArray, .bool false] ∧ H' = [nmB n s, smE s] := by
  refine Spec_body Tryz.func254 rfl Tryz.ntmps254 rfl (fun w0 => ?_)
  repeat (first | refine stepA ?_ | intro _)
  rename_i b3 b5 b7 b8 b9
  refine callA ?_; refine ⟨_, _, ipall_spec n, _, cutA, ?_⟩
  rintro v H' ⟨b, rfl, rfl⟩
  simp only [List.cons_append, List.nil_append]
  repeat (first | refine stepA ?_ | intro _)
  have inst : FnOk Tryz.prog 404 := inferInstance
  refine W_rangeNil (Hc := [nqB b n, (b3, .cells [.int .i64 key] 3), (b5, .cells th0.cells 177), (b7, .cells th0.cells 177), (b8, .cells [.int .i64 0] 3), (b9, .cells [.bool false] 4), nmB n s, smE s]) rfl (ev_of rfl (by with_reducible rfl)) inst (ipall_iter b n s) (by simp) ⟨_, cutA⟩ subA ?_
  intro D
  repeat (first | refine stepA ?_ | intro _)
  refine W_any [(b7, .cells th0.cells 177), (b8, .cells [.int .i64 0] 3), (b9, .cells [.bool false] 4)] [4] rfl ?_
  refine AS_at 0 (by decide +kernel) ?_; refine takeA ?_
  refine AS_at 1 (by decide +kernel) ?_; refine takeA ?_
  refine AS_at 3 (by decide +kernel) ?_; refine takeA ?_
  refine AS_two 2 4 rfl (by decide +kernel) rfl rfl ?_ ?_
  · skip
    refine stepA ?_
    refine L_nil ?_; refine ⟨rfl, (by first | exact KeepsH.brk (by decide +kernel) | exact KeepsH.sub subA | exact KeepsH.sub subT), ?_⟩
    refine AS_one 4 rfl (by decide +kernel) rfl ?_
    refine L_store (cs := th0.cells) (Ln := th0.cells) evA evA rfl rfl (fun u hu => List.all_eq_true.1 (show List.all th0.cells (fun u => u.oneCell') = true from rfl) u hu) repA rfl (by simp) ?_
    refine L_nil ?_; refine ⟨rfl, (by first | exact KeepsH.brk (by decide +kernel) | exact KeepsH.sub subA | exact KeepsH.sub subT), ?_⟩
    refine AS_at 5 (by decide +kernel) ?_; refine takeA ?_
    refine AS_done (by decide +kernel) ?_
    repeat (first | refine stepA ?_ | intro _)
    (first | refine retA ?_ | refine retB ?_); exact ⟨_, ⟨rfl, rfl⟩, subA⟩
  · skip
    refine L_store (cs := th0.cells) (Ln := th0.cells) evA evA rfl rfl (fun u hu => List.all_eq_true.1 (show List.all th0.cells (fun u => u.oneCell') = true from rfl) u hu) repA rfl (by simp) ?_
    refine L_nil ?_; refine ⟨rfl, (by first | exact KeepsH.brk (by decide +kernel) | exact KeepsH.sub subA | exact KeepsH.sub subT), ?_⟩
    refine AS_one 2 rfl (by decide +kernel) rfl ?_
    refine stepA ?_
    refine L_nil ?_; refine ⟨rfl, (by first | exact KeepsH.brk (by decide +kernel) | exact KeepsH.sub subA | exact KeepsH.sub subT), ?_⟩
    refine AS_at 5 (by decide +kernel) ?_; refine takeA ?_
    refine AS_done (by decide +kernel) ?_
    repeat (first | refine stepA ?_ | intro _)
    (first | refine retA ?_ | refine retB ?_); exact ⟨_, ⟨rfl, rfl⟩, subA⟩
theorem ipasked_384 : Spec Tryz.prog 226 [.int .i64 384] [] fun v H' => (∃ k, v = .int .i64 k) ∧ H' = [] := by
  refine Spec_body Tryz.func226 rfl Tryz.ntmps226 rfl (fun w0 => ?_)
  repeat (first | refine stepA ?_ | intro _)
  (first | (apply L_P; (· exact rfl); (· exact rfl)) | (apply QL_P; (· exact rfl))); (· (apply P_or; (· exact evA); (· exact evA)))
  have e1 : bits .or .i64 384 (384 / 8) = 432 := by decide
  rw [e1]
  repeat (first | refine stepA ?_ | intro _)
  (first | (apply L_P; (· exact rfl); (· exact rfl)) | (apply QL_P; (· exact rfl))); (· (apply P_or; (· exact evA); (· exact evA)))
  have e2 : bits .or .i64 432 (384 / 8 / 8) = 438 := by decide
  rw [e2]
  repeat (first | refine stepA ?_ | intro _)
  (first | refine retA ?_ | refine retB ?_); exact ⟨_, ⟨⟨_, rfl⟩, rfl⟩, subA⟩
theorem ipmade_0 (fl : Int) : Spec Tryz.prog 228 [.int .i64 0, .int .i64 fl] [] fun v H' => v = .bool true ∧ H' = [] := by
  refine Spec_body Tryz.func228 rfl Tryz.ntmps228 rfl (fun w0 => ?_)
  repeat (first | refine stepA ?_ | intro _)
  (first | refine retA ?_ | refine retB ?_); exact ⟨_, ⟨rfl, rfl⟩, subA⟩
abbrev th1 : ThV := ⟨0, 0, 0, 0, 384, 0, none, 0, 0⟩
theorem ipGet_spec (n s : Nat) : Spec Tryz.prog 143 [ptrB n, .agg #[.int .i64 0, .int .i64 0], .int .i64 0, .int .i64 384, .slice none 0 0] [nmB n s, smE s] fun v H' => v = .tuple #[.int .i64 0, .bool true, .int .i64 0] ∧ H' = [nmB n s, smK s 0 th1 true smZ] := by
  have hR := cright_ok 0 0 (by decide) (by decide)
  have hMk := cmake_ok 0 0 384 (by decide) (by decide) (by decide)
  refine Spec_body Tryz.func143 rfl Tryz.ntmps143 rfl (fun w0 => ?_)
  repeat (first | refine stepA ?_ | intro _)
  refine callA ?_; refine ⟨_, _, hR, _, cutA, ?_⟩
  rintro v H' ⟨rfl, rfl⟩
  simp only [List.cons_append, List.nil_append]
  repeat (first | refine stepA ?_ | intro _)
  refine callA ?_; refine ⟨_, _, ipnamed_spec n s 0, _, cutA, ?_⟩
  rintro v H' ⟨rfl, rfl⟩
  simp only [List.cons_append, List.nil_append]
  repeat (first | refine stepA ?_ | intro _)
  have e384 : (384 : Int) % 512 = 384 := by decide
  rw [e384]
  refine callA ?_; refine ⟨_, _, ipasked_384, _, cutA, ?_⟩
  rintro v H' ⟨⟨k, rfl⟩, rfl⟩
  simp only [List.cons_append, List.nil_append]
  repeat (first | refine stepA ?_ | intro _)
  refine callA ?_; refine ⟨_, _, ipmade_0 384, _, cutA, ?_⟩
  rintro v H' ⟨rfl, rfl⟩
  simp only [List.cons_append, List.nil_append]
  repeat (first | refine stepA ?_ | intro _)
  rw [e384]
  refine callA ?_; refine ⟨_, _, hMk, _, cutA, ?_⟩
  rintro v H' ⟨rfl, rfl⟩
  simp only [List.cons_append, List.nil_append]
  repeat (first | refine stepA ?_ | intro _)
  rename_i b1 b2 b3
  refine W_any [(b3, .cells [.int .i64 0, .int .i64 0, .int .i64 0, .int .i64 0, .int .i64 384] 169), nmB n s] [] rfl ?_
  refine AS_at 0 (by decide +kernel) ?_; refine takeA ?_
  refine AS_at 1 (by decide +kernel) ?_; refine takeA ?_
  refine AS_at 2 (by decide +kernel) ?_; refine takeA ?_
  refine AS_at 3 (by decide +kernel) ?_; refine takeA ?_
  refine AS_at 4 (by decide +kernel) ?_; refine takeA ?_
  refine AS_at 5 (by decide +kernel) ?_; refine takeA ?_
  refine AS_at 6 (by decide +kernel) ?_; refine takeA ?_
  refine AS_one 7 rfl (by decide +kernel) rfl ?_
  refine stepA ?_
  refine L_nil ?_; refine ⟨rfl, (by first | exact KeepsH.brk (by decide +kernel) | exact KeepsH.sub subA | exact KeepsH.sub subT), ?_⟩
  refine AS_one 8 rfl (by decide +kernel) rfl ?_
  refine callA ?_; refine ⟨_, _, smadd_spec s 0 smZ (by decide) th1, _, cutA, ?_⟩
  rintro v H' ⟨rfl, rfl⟩
  simp only [List.cons_append, List.nil_append]
  refine L_nil ?_; refine ⟨rfl, (by first | exact KeepsH.brk (by decide +kernel) | exact KeepsH.sub subA | exact KeepsH.sub subT), ?_⟩
  refine AS_at 9 (by decide +kernel) ?_; refine takeA ?_
  refine AS_at 10 (by decide +kernel) ?_; refine takeA ?_
  refine AS_at 11 (by decide +kernel) ?_; refine takeA ?_
  refine AS_at 12 (by decide +kernel) ?_; refine takeA ?_
  refine AS_at 13 (by decide +kernel) ?_; refine takeA ?_
  refine AS_done (by decide +kernel) ?_
  repeat (first | refine stepA ?_ | intro _)
  (first | refine retA ?_ | refine retB ?_); exact ⟨_, ⟨rfl, rfl⟩, subA⟩
end Go.Proofs.YtcpfmjlceoiofaaGreatDoor
