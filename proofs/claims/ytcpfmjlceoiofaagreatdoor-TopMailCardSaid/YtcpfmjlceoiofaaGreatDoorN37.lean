/-
  The kernel: New.
-/
import Derived.Test.YtcpfmjlceoiofaaGreatDoorN35
import Derived.Test.YtcpfmjlceoiofaaGreatDoorN36
import Derived.Test.YtcpfmjlceoiofaaGreatDoorN10
import Derived.Test.YtcpfmjlceoiofaaGreatDoorN11
set_option linter.unusedSimpArgs false
set_option linter.unusedVariables false
set_option linter.unusedSectionVars false
namespace Go.Proofs.YtcpfmjlceoiofaaGreatDoor
open Go.RowKit
attribute [local irreducible] W L QL PureOp thenQ blockQ retQ Spec IterOk YSpec roundQ scopeQ noGoQ
attribute [local irreducible] AS ASi IterOkC retD retE
set_option maxHeartbeats 25600000
set_option maxRecDepth 8000
theorem slnewP_spec : Spec Tryz.prog 35 [] [] fun v H' => ∃ b, v = ptrB b ∧ H' = [slK b 0 none false slZ] := by
  refine Spec_body Tryz.func35 rfl Tryz.ntmps35 rfl (fun w0 => ?_)
  repeat (first | refine stepA ?_ | intro _)
  rename_i b
  (first | refine retA ?_ | refine retB ?_)
  exact ⟨_, ⟨b, rfl, rfl⟩, subA⟩
theorem slnewI_spec : Spec Tryz.prog 87 [] [] fun v H' => ∃ b, v = ptrB b ∧ H' = [] := by
  refine Spec_body Tryz.func87 rfl Tryz.ntmps87 rfl (fun w0 => ?_)
  repeat (first | refine stepA ?_ | intro _)
  rename_i b
  (first | refine retA ?_ | refine retB ?_)
  exact ⟨_, ⟨b, rfl, rfl⟩, subA⟩
theorem ipcnewI_spec : Spec Tryz.prog 36 [] [] fun v H' => ∃ b, v = ptrB b ∧ H' = [] := by
  refine Spec_body Tryz.func36 rfl Tryz.ntmps36 rfl (fun w0 => ?_)
  repeat (first | refine stepA ?_ | intro _)
  refine callA ?_; refine ⟨_, _, slnewI_spec, _, cutA, ?_⟩
  rintro v H' ⟨b1, rfl, rfl⟩
  simp only [List.cons_append, List.nil_append]
  repeat (first | refine stepA ?_ | intro _)
  rename_i b
  (first | refine retA ?_ | refine retB ?_)
  exact ⟨_, ⟨b, rfl, rfl⟩, subA⟩
theorem slnewM_spec : Spec Tryz.prog 88 [] [] fun v H' => ∃ b, v = ptrB b ∧ H' = [smE b] := by
  refine Spec_body Tryz.func88 rfl Tryz.ntmps88 rfl (fun w0 => ?_)
  repeat (first | refine stepA ?_ | intro _)
  rename_i b
  (first | refine retA ?_ | refine retB ?_)
  exact ⟨_, ⟨b, rfl, rfl⟩, subA⟩
theorem ipcnewM_spec : Spec Tryz.prog 37 [] [] fun v H' => ∃ b s, v = ptrB b ∧ H' = [nmB b s, smE s] := by
  refine Spec_body Tryz.func37 rfl Tryz.ntmps37 rfl (fun w0 => ?_)
  repeat (first | refine stepA ?_ | intro _)
  refine callA ?_; refine ⟨_, _, slnewM_spec, _, cutA, ?_⟩
  rintro v H' ⟨s, rfl, rfl⟩
  simp only [List.cons_append, List.nil_append]
  repeat (first | refine stepA ?_ | intro _)
  rename_i b
  (first | refine retA ?_ | refine retB ?_)
  exact ⟨_, ⟨b, s, rfl, rfl⟩, subA⟩
theorem slnewS_spec : Spec Tryz.prog 89 [] [] fun v H' => ∃ b, v = ptrB b ∧ H' = [] := by
  refine Spec_body Tryz.func89 rfl Tryz.ntmps89 rfl (fun w0 => ?_)
  repeat (first | refine stepA ?_ | intro _)
  rename_i b
  (first | refine retA ?_ | refine retB ?_)
  exact ⟨_, ⟨b, rfl, rfl⟩, subA⟩
theorem ipcnewS_spec : Spec Tryz.prog 38 [] [] fun v H' => ∃ b, v = ptrB b ∧ H' = [] := by
  refine Spec_body Tryz.func38 rfl Tryz.ntmps38 rfl (fun w0 => ?_)
  repeat (first | refine stepA ?_ | intro _)
  refine callA ?_; refine ⟨_, _, slnewS_spec, _, cutA, ?_⟩
  rintro v H' ⟨b1, rfl, rfl⟩
  simp only [List.cons_append, List.nil_append]
  repeat (first | refine stepA ?_ | intro _)
  rename_i b
  (first | refine retA ?_ | refine retB ?_)
  exact ⟨_, ⟨b, rfl, rfl⟩, subA⟩
structure NP where
  pr : Nat
  mb : Nat
  pb : Nat
  fr : Nat
  fm : Nat
  pi : Nat
  se : Nat
  qu : Nat
  sq : Nat
  sg : Nat
  tm : Nat
  am : Nat
  tb : Nat
/-- which operations have come up in a state -/
def nwL (s : Fin 70) : Array Bool :=
  let a := s.val / 10
  let b := s.val % 10
  #[true, decide (1 ≤ a), decide (2 ≤ a), decide (3 ≤ a), decide (4 ≤ a), decide (5 ≤ a), decide (6 ≤ a), decide (b = 1 ∨ b = 3 ∨ b = 5 ∨ 7 ≤ b), true, decide (2 ≤ b), decide (4 ≤ b), decide (6 ≤ b), decide (8 ≤ b), decide (9 ≤ b), false, false, false, false]
def nwR (s : Fin 70) : Nat :=
  let a := s.val / 10
  let b := s.val % 10
  4 + (6 - a) + [6, 5, 5, 4, 4, 3, 3, 2, 1, 0].getD b 0
def nwN (s : Fin 70) : List (Nat × Fin 70) :=
  let a := s.val / 10
  let b := s.val % 10
  (if h : a < 6 then [(a + 1, (⟨s.val + 10, by have := s.isLt; omega⟩ : Fin 70))] else []) ++
  (([[(7, 1), (9, 2)], [(9, 3)], [(7, 3), (10, 4)], [(10, 5)], [(7, 5), (11, 6)], [(11, 7)], [(7, 7)], [(12, 8)], [(13, 9)], []] : List (List (Nat × Nat))).getD b []).map fun q => (q.1, ⟨(a * 10 + q.2) % 70, Nat.mod_lt _ (by decide)⟩)
theorem nw_ok : ∀ s : Fin 70, ∀ p ∈ nwN s, (nwL s).setIfInBounds p.1 true = nwL p.2 ∧ nwR s = nwR p.2 + 1 := by decide +kernel
abbrev newT (s : SpM) (am : Nat) : TK := ⟨s, none, 0, 0, [], am, 0, rs0, ⟨0, 0, 0, 0, 0, 0, []⟩, []⟩
abbrev newP : PR := ⟨1, 0, 1, 0, 0, [], 0, false⟩
def nwS (m : MemP) (q : SpM) (s : Fin 70) (x : NP) : St :=
  let a := s.val / 10
  let b := s.val % 10
  (if b = 1 ∨ b = 3 ∨ b = 5 ∨ 7 ≤ b then [(39, .map (some x.tm))] else []) ++ ((if 2 ≤ b then [(41, .map (some x.am))] else []) ++ ((if 4 ≤ b then [(42, .agg (newT q x.am).cells.toArray)] else []) ++ ((if 6 ≤ b then [(43, ptrB x.tb)] else []) ++ ((if 9 ≤ b then [(44, .map (some x.tm))] else []) ++
  ([(32, m.ptr), (40, spV q none 0 0)] ++ ((if 1 ≤ a then [(33, ptrB x.pr)] else []) ++ ((if 2 ≤ a then [(34, ptrB x.fr)] else []) ++ ((if 3 ≤ a then [(35, ptrB x.pi)] else []) ++ ((if 4 ≤ a then [(36, ptrB x.se)] else []) ++ ((if 5 ≤ a then [(37, ptrB x.qu)] else []) ++ (if 6 ≤ a then [(38, ptrB x.sg)] else [])))))))))))
def nwH (m : MemP) (M : List Frm) (b8 : Nat) (q : SpM) (s : Fin 70) (x : NP) : Hp :=
  let a := s.val / 10
  let b := s.val % 10
  (if b = 1 ∨ b = 3 ∨ b = 5 ∨ 7 ≤ b then [(x.tm, if 8 ≤ b then mapB [⟨1, ptrB x.tb, 0⟩] 1 else mapB [] 0)] else []) ++ ((if 2 ≤ b then [amB x.am 0] else []) ++ ((if 6 ≤ b then [tkB x.tb (newT q x.am)] else []) ++
  ((b8, .cells (spC q none 0 0) 84) :: ((if 1 ≤ a then [tbB x.pr x.mb 1, kvB x.mb [⟨x.pb, 0, newP⟩] 1, prK x.pb newP] else []) ++ ((if 2 ≤ a then [flB x.fr x.fm 0, rmB x.fm [] 0] else []) ++ ((if 3 ≤ a then [slK x.pi 0 none false slZ] else []) ++ ((if 5 ≤ a then [nmB x.qu x.sq, smE x.sq] else []) ++ memH m M)))))))
abbrev newK (x : NP) (k : Nat) (m : MemP) (M : List Frm) (q : SpM) : KS :=
  { k := k, pr := x.pr, mb := x.mb, fr := x.fr, fm := x.fm, tm := x.tm, pi := x.pi, se := x.se, qu := x.qu, sg := x.sg, m := m, M := M, L := [⟨x.pb, 0, newP⟩], last := 1, c := 1, R := [], rc := 0, T := [⟨x.tb, 0, 1, newT q x.am⟩], tc := 1, fc := 0, E := [nmB x.qu x.sq, smE x.sq, slK x.pi 0 none false slZ] }
theorem newK_wf (x : NP) (k : Nat) (m : MemP) {M : List Frm} (hM : WfM M) (q : SpM) (hq : q.atts = []) : WfK (newK x k m M q) := by
  refine ⟨hM, ⟨?_, ?_, ?_, ?_, ?_, ?_⟩, ⟨?_, ?_, ?_⟩, ?_, ⟨?_, ?_, ?_⟩, ?_, ?_, ?_, rfl⟩
  · simp [pidsP]
  · intro y hy
    obtain rfl := List.mem_singleton.1 hy
    exact ⟨Int.le_refl _, Int.le_refl _⟩
  · exact ⟨Int.le_refl _, by show (1 : Int) ≤ 30000; decide⟩
  · simp
  · intro y hy
    obtain rfl := List.mem_singleton.1 hy
    exact Nat.lt_succ_self _
  · simp
  · simp [keysG]
  · intro y hy; cases hy
  · simp
  · intro y hy; cases hy
  · simp [keysG]
  · intro y hy
    obtain rfl := List.mem_singleton.1 hy
    exact Nat.lt_succ_self _
  · simp
  · intro y hy
    obtain rfl := List.mem_singleton.1 hy
    exact ⟨by show oA none 0 0 (atC q.atts) []; rw [hq]; exact Own.nil, Nat.zero_le _, hq⟩
  · intro j
    simp only [findP, findG]
    split <;> rfl
  · intro y hy; cases hy
theorem prnew2 : Spec Tryz.prog 33 [] [] fun v H' => ∃ r mb b, v = ptrB r ∧ H' = [tbB r mb 1, kvB mb [⟨b, 0, newP⟩] 1, prK b newP] := prnew_spec
theorem knew_spec (n : Nat) (hn : 8 ≤ n ∧ n ≤ 256) (c t d : UInt8) (hc : c.toNat = 88) (text data : List UInt8) (ht : text.length = t.toNat) (hd : data.length = d.toNat) (hE : (execM (newM n) text data).1 = 0) (hW : WfM (execM (newM n) text data).2.2) :
    Spec Tryz.prog 13 [.int .i64 (n : Int), str (c :: t :: d :: (text ++ data))] [] fun v H' => ∃ x k m, v = .tuple #[ptrB k, .int .i64 0] ∧ H' = kH (newK x k m (execM (newM n) text data).2.2 ⟨(execM (newM n) text data).2.1, spanN text.length, spanN data.length, 0, []⟩) := by
  refine Spec_body Tryz.func13 rfl Tryz.ntmps13 rfl (fun w0 => ?_)
  have h1 := hn.1
  have h2 := hn.2
  repeat (first | refine stepA ?_ | intro _)
  refine callA ?_; refine ⟨_, _, new_spec n ⟨by omega, by omega⟩, _, cutA, ?_⟩
  rintro v H' ⟨m, rfl, rfl⟩
  simp only [List.cons_append, List.nil_append]
  repeat (first | refine stepA ?_ | intro _)
  refine callA ?_; refine ⟨_, _, exec_ok m (M := newM n) (newM_wf ⟨by omega, by omega⟩) c t d hc text data ht hd, _, cutA, ?_⟩
  rintro v H' (⟨h0, -, -⟩ | ⟨-, rfl, rfl⟩)
  · exact absurd hE h0
  simp only [List.cons_append, List.nil_append]
  repeat (first | refine stepA ?_ | intro _)
  rename_i b8
  obtain ⟨q, hq⟩ : ∃ q : SpM, q = ⟨(execM (newM n) text data).2.1, spanN text.length, spanN data.length, 0, []⟩ := ⟨_, rfl⟩
  rw [← hq]
  obtain ⟨M, hM⟩ : ∃ M, M = (execM (newM n) text data).2.2 := ⟨_, rfl⟩
  rw [← hM]
  refine W_any [(b8, .cells (spC q none 0 0) 84)] [] rfl ?_
  refine AS_at 0 (by decide +kernel) ?_; refine takeA ?_
  refine AS_at 8 (by decide +kernel) ?_; refine takeA ?_
  refine AS_st nwL nwR nwN (fun _ _ => True) (nwS m q) (nwH m M b8 q) rfl (by decide +kernel) nw_ok ?_ ?_ 16 0 ⟨0, 0, 0, 0, 0, 0, 0, 0, 0, 0, 0, 0, 0⟩ _ _ rfl trivial sublA subT
  · rintro ⟨k, hk⟩ p hp x - KK hK
    obtain ⟨a, b, rfl, ha, hb⟩ : ∃ a b, k = 10 * a + b ∧ a < 7 ∧ b < 10 := ⟨k / 10, k % 10, by omega, by omega, by omega⟩
    obtain ⟨l0, hl0⟩ : ∃ l0, l0 = nwS m q ⟨10 * a + b, hk⟩ x := ⟨_, rfl⟩
    obtain ⟨H0, hH0⟩ : ∃ H0, H0 = nwH m M b8 q ⟨10 * a + b, hk⟩ x := ⟨_, rfl⟩
    rw [← hl0, ← hH0]
    rcases (show a = 0 ∨ a = 1 ∨ a = 2 ∨ a = 3 ∨ a = 4 ∨ a = 5 ∨ a = 6 by omega) with rfl | rfl | rfl | rfl | rfl | rfl | rfl <;>
    rcases (show b = 0 ∨ b = 1 ∨ b = 2 ∨ b = 3 ∨ b = 4 ∨ b = 5 ∨ b = 6 ∨ b = 7 ∨ b = 8 ∨ b = 9 by omega) with rfl | rfl | rfl | rfl | rfl | rfl | rfl | rfl | rfl | rfl
    · simp [nwS] at hl0; simp [nwH] at hH0; simp [nwN] at hp; subst hl0 hH0
      rcases hp with rfl | rfl | rfl
      · refine ⟨_, rfl, ?_⟩; refine callA ⟨_, _, prnew2, _, cutA, ?_⟩; rintro v H' ⟨r, mb, pb, rfl, rfl⟩; refine L_nil ?_; refine ⟨rfl, KeepsH.sub subT, hK { x with pr := r, mb := mb, pb := pb } _ _ trivial (by simp [nwS]; exact sublA) (by simp [nwH]; exact subT)⟩
      · refine ⟨_, rfl, ?_⟩; refine L_makeMap rfl ?_; intro r; refine L_nil ?_; refine ⟨rfl, KeepsH.sub subT, hK { x with tm := r } _ _ trivial (by simp [nwS]; exact sublA) (by simp [nwH]; exact subT)⟩
      · refine ⟨_, rfl, ?_⟩; refine L_makeMap rfl ?_; intro r; refine L_nil ?_; refine ⟨rfl, KeepsH.sub subT, hK { x with am := r } _ _ trivial (by simp [nwS]; exact sublA) (by simp [nwH]; exact subT)⟩
    · simp [nwS] at hl0; simp [nwH] at hH0; simp [nwN] at hp; subst hl0 hH0
      rcases hp with rfl | rfl
      · refine ⟨_, rfl, ?_⟩; refine callA ⟨_, _, prnew2, _, cutA, ?_⟩; rintro v H' ⟨r, mb, pb, rfl, rfl⟩; refine L_nil ?_; refine ⟨rfl, KeepsH.sub subT, hK { x with pr := r, mb := mb, pb := pb } _ _ trivial (by simp [nwS]; exact sublA) (by simp [nwH]; exact subT)⟩
      · refine ⟨_, rfl, ?_⟩; refine L_makeMap rfl ?_; intro r; refine L_nil ?_; refine ⟨rfl, KeepsH.sub subT, hK { x with am := r } _ _ trivial (by simp [nwS]; exact sublA) (by simp [nwH]; exact subT)⟩
    · simp [nwS] at hl0; simp [nwH] at hH0; simp [nwN] at hp; subst hl0 hH0
      rcases hp with rfl | rfl | rfl
      · refine ⟨_, rfl, ?_⟩; refine callA ⟨_, _, prnew2, _, cutA, ?_⟩; rintro v H' ⟨r, mb, pb, rfl, rfl⟩; refine L_nil ?_; refine ⟨rfl, KeepsH.sub subT, hK { x with pr := r, mb := mb, pb := pb } _ _ trivial (by simp [nwS]; exact sublA) (by simp [nwH]; exact subT)⟩
      · refine ⟨_, rfl, ?_⟩; refine L_makeMap rfl ?_; intro r; refine L_nil ?_; refine ⟨rfl, KeepsH.sub subT, hK { x with tm := r } _ _ trivial (by simp [nwS]; exact sublA) (by simp [nwH]; exact subT)⟩
      · refine ⟨_, rfl, ?_⟩; refine stepA ?_; refine L_nil ?_; refine ⟨rfl, KeepsH.sub subT, hK x _ _ trivial (by simp [nwS]; exact sublA) (by simp [nwH]; exact subT)⟩
    · simp [nwS] at hl0; simp [nwH] at hH0; simp [nwN] at hp; subst hl0 hH0
      rcases hp with rfl | rfl
      · refine ⟨_, rfl, ?_⟩; refine callA ⟨_, _, prnew2, _, cutA, ?_⟩; rintro v H' ⟨r, mb, pb, rfl, rfl⟩; refine L_nil ?_; refine ⟨rfl, KeepsH.sub subT, hK { x with pr := r, mb := mb, pb := pb } _ _ trivial (by simp [nwS]; exact sublA) (by simp [nwH]; exact subT)⟩
      · refine ⟨_, rfl, ?_⟩; refine stepA ?_; refine L_nil ?_; refine ⟨rfl, KeepsH.sub subT, hK x _ _ trivial (by simp [nwS]; exact sublA) (by simp [nwH]; exact subT)⟩
    · simp [nwS] at hl0; simp [nwH] at hH0; simp [nwN] at hp; subst hl0 hH0
      rcases hp with rfl | rfl | rfl
      · refine ⟨_, rfl, ?_⟩; refine callA ⟨_, _, prnew2, _, cutA, ?_⟩; rintro v H' ⟨r, mb, pb, rfl, rfl⟩; refine L_nil ?_; refine ⟨rfl, KeepsH.sub subT, hK { x with pr := r, mb := mb, pb := pb } _ _ trivial (by simp [nwS]; exact sublA) (by simp [nwH]; exact subT)⟩
      · refine ⟨_, rfl, ?_⟩; refine L_makeMap rfl ?_; intro r; refine L_nil ?_; refine ⟨rfl, KeepsH.sub subT, hK { x with tm := r } _ _ trivial (by simp [nwS]; exact sublA) (by simp [nwH]; exact subT)⟩
      · refine ⟨_, rfl, ?_⟩; refine stepA ?_; intro r; refine L_nil ?_; refine ⟨rfl, KeepsH.sub subT, hK { x with tb := r } _ _ trivial (by simp [nwS]; exact sublA) (by simp [nwH]; exact subT)⟩
    · simp [nwS] at hl0; simp [nwH] at hH0; simp [nwN] at hp; subst hl0 hH0
      rcases hp with rfl | rfl
      · refine ⟨_, rfl, ?_⟩; refine callA ⟨_, _, prnew2, _, cutA, ?_⟩; rintro v H' ⟨r, mb, pb, rfl, rfl⟩; refine L_nil ?_; refine ⟨rfl, KeepsH.sub subT, hK { x with pr := r, mb := mb, pb := pb } _ _ trivial (by simp [nwS]; exact sublA) (by simp [nwH]; exact subT)⟩
      · refine ⟨_, rfl, ?_⟩; refine stepA ?_; intro r; refine L_nil ?_; refine ⟨rfl, KeepsH.sub subT, hK { x with tb := r } _ _ trivial (by simp [nwS]; exact sublA) (by simp [nwH]; exact subT)⟩
    · simp [nwS] at hl0; simp [nwH] at hH0; simp [nwN] at hp; subst hl0 hH0
      rcases hp with rfl | rfl
      · refine ⟨_, rfl, ?_⟩; refine callA ⟨_, _, prnew2, _, cutA, ?_⟩; rintro v H' ⟨r, mb, pb, rfl, rfl⟩; refine L_nil ?_; refine ⟨rfl, KeepsH.sub subT, hK { x with pr := r, mb := mb, pb := pb } _ _ trivial (by simp [nwS]; exact sublA) (by simp [nwH]; exact subT)⟩
      · refine ⟨_, rfl, ?_⟩; refine L_makeMap rfl ?_; intro r; refine L_nil ?_; refine ⟨rfl, KeepsH.sub subT, hK { x with tm := r } _ _ trivial (by simp [nwS]; exact sublA) (by simp [nwH]; exact subT)⟩
    · simp [nwS] at hl0; simp [nwH] at hH0; simp [nwN] at hp; subst hl0 hH0
      rcases hp with rfl | rfl
      · refine ⟨_, rfl, ?_⟩; refine callA ⟨_, _, prnew2, _, cutA, ?_⟩; rintro v H' ⟨r, mb, pb, rfl, rfl⟩; refine L_nil ?_; refine ⟨rfl, KeepsH.sub subT, hK { x with pr := r, mb := mb, pb := pb } _ _ trivial (by simp [nwS]; exact sublA) (by simp [nwH]; exact subT)⟩
      · refine ⟨_, rfl, ?_⟩; refine L_insNew (v := ptrB x.tb) (i := 1) (Ls := []) (c := 0) evA evA evA rfl repA ?_; refine L_nil ?_; refine ⟨rfl, KeepsH.sub subT, hK x _ _ trivial (by simp [nwS]; exact sublA) (by simp [nwH]; exact subT)⟩
    · simp [nwS] at hl0; simp [nwH] at hH0; simp [nwN] at hp; subst hl0 hH0
      rcases hp with rfl | rfl
      · refine ⟨_, rfl, ?_⟩; refine callA ⟨_, _, prnew2, _, cutA, ?_⟩; rintro v H' ⟨r, mb, pb, rfl, rfl⟩; refine L_nil ?_; refine ⟨rfl, KeepsH.sub subT, hK { x with pr := r, mb := mb, pb := pb } _ _ trivial (by simp [nwS]; exact sublA) (by simp [nwH]; exact subT)⟩
      · refine ⟨_, rfl, ?_⟩; refine stepA ?_; refine L_nil ?_; refine ⟨rfl, KeepsH.sub subT, hK x _ _ trivial (by simp [nwS]; exact sublA) (by simp [nwH]; exact subT)⟩
    · simp [nwS] at hl0; simp [nwH] at hH0; simp [nwN] at hp; subst hl0 hH0
      subst hp
      · refine ⟨_, rfl, ?_⟩; refine callA ⟨_, _, prnew2, _, cutA, ?_⟩; rintro v H' ⟨r, mb, pb, rfl, rfl⟩; refine L_nil ?_; refine ⟨rfl, KeepsH.sub subT, hK { x with pr := r, mb := mb, pb := pb } _ _ trivial (by simp [nwS]; exact sublA) (by simp [nwH]; exact subT)⟩
    · simp [nwS] at hl0; simp [nwH] at hH0; simp [nwN] at hp; subst hl0 hH0
      rcases hp with rfl | rfl | rfl
      · refine ⟨_, rfl, ?_⟩; refine callA ⟨_, _, finew_spec, _, cutA, ?_⟩; rintro v H' ⟨r, mb, rfl, rfl⟩; refine L_nil ?_; refine ⟨rfl, KeepsH.sub subT, hK { x with fr := r, fm := mb } _ _ trivial (by simp [nwS]; exact sublA) (by simp [nwH]; exact subT)⟩
      · refine ⟨_, rfl, ?_⟩; refine L_makeMap rfl ?_; intro r; refine L_nil ?_; refine ⟨rfl, KeepsH.sub subT, hK { x with tm := r } _ _ trivial (by simp [nwS]; exact sublA) (by simp [nwH]; exact subT)⟩
      · refine ⟨_, rfl, ?_⟩; refine L_makeMap rfl ?_; intro r; refine L_nil ?_; refine ⟨rfl, KeepsH.sub subT, hK { x with am := r } _ _ trivial (by simp [nwS]; exact sublA) (by simp [nwH]; exact subT)⟩
    · simp [nwS] at hl0; simp [nwH] at hH0; simp [nwN] at hp; subst hl0 hH0
      rcases hp with rfl | rfl
      · refine ⟨_, rfl, ?_⟩; refine callA ⟨_, _, finew_spec, _, cutA, ?_⟩; rintro v H' ⟨r, mb, rfl, rfl⟩; refine L_nil ?_; refine ⟨rfl, KeepsH.sub subT, hK { x with fr := r, fm := mb } _ _ trivial (by simp [nwS]; exact sublA) (by simp [nwH]; exact subT)⟩
      · refine ⟨_, rfl, ?_⟩; refine L_makeMap rfl ?_; intro r; refine L_nil ?_; refine ⟨rfl, KeepsH.sub subT, hK { x with am := r } _ _ trivial (by simp [nwS]; exact sublA) (by simp [nwH]; exact subT)⟩
    · simp [nwS] at hl0; simp [nwH] at hH0; simp [nwN] at hp; subst hl0 hH0
      rcases hp with rfl | rfl | rfl
      · refine ⟨_, rfl, ?_⟩; refine callA ⟨_, _, finew_spec, _, cutA, ?_⟩; rintro v H' ⟨r, mb, rfl, rfl⟩; refine L_nil ?_; refine ⟨rfl, KeepsH.sub subT, hK { x with fr := r, fm := mb } _ _ trivial (by simp [nwS]; exact sublA) (by simp [nwH]; exact subT)⟩
      · refine ⟨_, rfl, ?_⟩; refine L_makeMap rfl ?_; intro r; refine L_nil ?_; refine ⟨rfl, KeepsH.sub subT, hK { x with tm := r } _ _ trivial (by simp [nwS]; exact sublA) (by simp [nwH]; exact subT)⟩
      · refine ⟨_, rfl, ?_⟩; refine stepA ?_; refine L_nil ?_; refine ⟨rfl, KeepsH.sub subT, hK x _ _ trivial (by simp [nwS]; exact sublA) (by simp [nwH]; exact subT)⟩
    · simp [nwS] at hl0; simp [nwH] at hH0; simp [nwN] at hp; subst hl0 hH0
      rcases hp with rfl | rfl
      · refine ⟨_, rfl, ?_⟩; refine callA ⟨_, _, finew_spec, _, cutA, ?_⟩; rintro v H' ⟨r, mb, rfl, rfl⟩; refine L_nil ?_; refine ⟨rfl, KeepsH.sub subT, hK { x with fr := r, fm := mb } _ _ trivial (by simp [nwS]; exact sublA) (by simp [nwH]; exact subT)⟩
      · refine ⟨_, rfl, ?_⟩; refine stepA ?_; refine L_nil ?_; refine ⟨rfl, KeepsH.sub subT, hK x _ _ trivial (by simp [nwS]; exact sublA) (by simp [nwH]; exact subT)⟩
    · simp [nwS] at hl0; simp [nwH] at hH0; simp [nwN] at hp; subst hl0 hH0
      rcases hp with rfl | rfl | rfl
      · refine ⟨_, rfl, ?_⟩; refine callA ⟨_, _, finew_spec, _, cutA, ?_⟩; rintro v H' ⟨r, mb, rfl, rfl⟩; refine L_nil ?_; refine ⟨rfl, KeepsH.sub subT, hK { x with fr := r, fm := mb } _ _ trivial (by simp [nwS]; exact sublA) (by simp [nwH]; exact subT)⟩
      · refine ⟨_, rfl, ?_⟩; refine L_makeMap rfl ?_; intro r; refine L_nil ?_; refine ⟨rfl, KeepsH.sub subT, hK { x with tm := r } _ _ trivial (by simp [nwS]; exact sublA) (by simp [nwH]; exact subT)⟩
      · refine ⟨_, rfl, ?_⟩; refine stepA ?_; intro r; refine L_nil ?_; refine ⟨rfl, KeepsH.sub subT, hK { x with tb := r } _ _ trivial (by simp [nwS]; exact sublA) (by simp [nwH]; exact subT)⟩
    · simp [nwS] at hl0; simp [nwH] at hH0; simp [nwN] at hp; subst hl0 hH0
      rcases hp with rfl | rfl
      · refine ⟨_, rfl, ?_⟩; refine callA ⟨_, _, finew_spec, _, cutA, ?_⟩; rintro v H' ⟨r, mb, rfl, rfl⟩; refine L_nil ?_; refine ⟨rfl, KeepsH.sub subT, hK { x with fr := r, fm := mb } _ _ trivial (by simp [nwS]; exact sublA) (by simp [nwH]; exact subT)⟩
      · refine ⟨_, rfl, ?_⟩; refine stepA ?_; intro r; refine L_nil ?_; refine ⟨rfl, KeepsH.sub subT, hK { x with tb := r } _ _ trivial (by simp [nwS]; exact sublA) (by simp [nwH]; exact subT)⟩
    · simp [nwS] at hl0; simp [nwH] at hH0; simp [nwN] at hp; subst hl0 hH0
      rcases hp with rfl | rfl
      · refine ⟨_, rfl, ?_⟩; refine callA ⟨_, _, finew_spec, _, cutA, ?_⟩; rintro v H' ⟨r, mb, rfl, rfl⟩; refine L_nil ?_; refine ⟨rfl, KeepsH.sub subT, hK { x with fr := r, fm := mb } _ _ trivial (by simp [nwS]; exact sublA) (by simp [nwH]; exact subT)⟩
      · refine ⟨_, rfl, ?_⟩; refine L_makeMap rfl ?_; intro r; refine L_nil ?_; refine ⟨rfl, KeepsH.sub subT, hK { x with tm := r } _ _ trivial (by simp [nwS]; exact sublA) (by simp [nwH]; exact subT)⟩
    · simp [nwS] at hl0; simp [nwH] at hH0; simp [nwN] at hp; subst hl0 hH0
      rcases hp with rfl | rfl
      · refine ⟨_, rfl, ?_⟩; refine callA ⟨_, _, finew_spec, _, cutA, ?_⟩; rintro v H' ⟨r, mb, rfl, rfl⟩; refine L_nil ?_; refine ⟨rfl, KeepsH.sub subT, hK { x with fr := r, fm := mb } _ _ trivial (by simp [nwS]; exact sublA) (by simp [nwH]; exact subT)⟩
      · refine ⟨_, rfl, ?_⟩; refine L_insNew (v := ptrB x.tb) (i := 1) (Ls := []) (c := 0) evA evA evA rfl repA ?_; refine L_nil ?_; refine ⟨rfl, KeepsH.sub subT, hK x _ _ trivial (by simp [nwS]; exact sublA) (by simp [nwH]; exact subT)⟩
    · simp [nwS] at hl0; simp [nwH] at hH0; simp [nwN] at hp; subst hl0 hH0
      rcases hp with rfl | rfl
      · refine ⟨_, rfl, ?_⟩; refine callA ⟨_, _, finew_spec, _, cutA, ?_⟩; rintro v H' ⟨r, mb, rfl, rfl⟩; refine L_nil ?_; refine ⟨rfl, KeepsH.sub subT, hK { x with fr := r, fm := mb } _ _ trivial (by simp [nwS]; exact sublA) (by simp [nwH]; exact subT)⟩
      · refine ⟨_, rfl, ?_⟩; refine stepA ?_; refine L_nil ?_; refine ⟨rfl, KeepsH.sub subT, hK x _ _ trivial (by simp [nwS]; exact sublA) (by simp [nwH]; exact subT)⟩
    · simp [nwS] at hl0; simp [nwH] at hH0; simp [nwN] at hp; subst hl0 hH0
      subst hp
      · refine ⟨_, rfl, ?_⟩; refine callA ⟨_, _, finew_spec, _, cutA, ?_⟩; rintro v H' ⟨r, mb, rfl, rfl⟩; refine L_nil ?_; refine ⟨rfl, KeepsH.sub subT, hK { x with fr := r, fm := mb } _ _ trivial (by simp [nwS]; exact sublA) (by simp [nwH]; exact subT)⟩
    · simp [nwS] at hl0; simp [nwH] at hH0; simp [nwN] at hp; subst hl0 hH0
      rcases hp with rfl | rfl | rfl
      · refine ⟨_, rfl, ?_⟩; refine callA ⟨_, _, slnewP_spec, _, cutA, ?_⟩; rintro v H' ⟨r, rfl, rfl⟩; refine L_nil ?_; refine ⟨rfl, KeepsH.sub subT, hK { x with pi := r } _ _ trivial (by simp [nwS]; exact sublA) (by simp [nwH]; exact subT)⟩
      · refine ⟨_, rfl, ?_⟩; refine L_makeMap rfl ?_; intro r; refine L_nil ?_; refine ⟨rfl, KeepsH.sub subT, hK { x with tm := r } _ _ trivial (by simp [nwS]; exact sublA) (by simp [nwH]; exact subT)⟩
      · refine ⟨_, rfl, ?_⟩; refine L_makeMap rfl ?_; intro r; refine L_nil ?_; refine ⟨rfl, KeepsH.sub subT, hK { x with am := r } _ _ trivial (by simp [nwS]; exact sublA) (by simp [nwH]; exact subT)⟩
    · simp [nwS] at hl0; simp [nwH] at hH0; simp [nwN] at hp; subst hl0 hH0
      rcases hp with rfl | rfl
      · refine ⟨_, rfl, ?_⟩; refine callA ⟨_, _, slnewP_spec, _, cutA, ?_⟩; rintro v H' ⟨r, rfl, rfl⟩; refine L_nil ?_; refine ⟨rfl, KeepsH.sub subT, hK { x with pi := r } _ _ trivial (by simp [nwS]; exact sublA) (by simp [nwH]; exact subT)⟩
      · refine ⟨_, rfl, ?_⟩; refine L_makeMap rfl ?_; intro r; refine L_nil ?_; refine ⟨rfl, KeepsH.sub subT, hK { x with am := r } _ _ trivial (by simp [nwS]; exact sublA) (by simp [nwH]; exact subT)⟩
    · simp [nwS] at hl0; simp [nwH] at hH0; simp [nwN] at hp; subst hl0 hH0
      rcases hp with rfl | rfl | rfl
      · refine ⟨_, rfl, ?_⟩; refine callA ⟨_, _, slnewP_spec, _, cutA, ?_⟩; rintro v H' ⟨r, rfl, rfl⟩; refine L_nil ?_; refine ⟨rfl, KeepsH.sub subT, hK { x with pi := r } _ _ trivial (by simp [nwS]; exact sublA) (by simp [nwH]; exact subT)⟩
      · refine ⟨_, rfl, ?_⟩; refine L_makeMap rfl ?_; intro r; refine L_nil ?_; refine ⟨rfl, KeepsH.sub subT, hK { x with tm := r } _ _ trivial (by simp [nwS]; exact sublA) (by simp [nwH]; exact subT)⟩
      · refine ⟨_, rfl, ?_⟩; refine stepA ?_; refine L_nil ?_; refine ⟨rfl, KeepsH.sub subT, hK x _ _ trivial (by simp [nwS]; exact sublA) (by simp [nwH]; exact subT)⟩
    · simp [nwS] at hl0; simp [nwH] at hH0; simp [nwN] at hp; subst hl0 hH0
      rcases hp with rfl | rfl
      · refine ⟨_, rfl, ?_⟩; refine callA ⟨_, _, slnewP_spec, _, cutA, ?_⟩; rintro v H' ⟨r, rfl, rfl⟩; refine L_nil ?_; refine ⟨rfl, KeepsH.sub subT, hK { x with pi := r } _ _ trivial (by simp [nwS]; exact sublA) (by simp [nwH]; exact subT)⟩
      · refine ⟨_, rfl, ?_⟩; refine stepA ?_; refine L_nil ?_; refine ⟨rfl, KeepsH.sub subT, hK x _ _ trivial (by simp [nwS]; exact sublA) (by simp [nwH]; exact subT)⟩
    · simp [nwS] at hl0; simp [nwH] at hH0; simp [nwN] at hp; subst hl0 hH0
      rcases hp with rfl | rfl | rfl
      · refine ⟨_, rfl, ?_⟩; refine callA ⟨_, _, slnewP_spec, _, cutA, ?_⟩; rintro v H' ⟨r, rfl, rfl⟩; refine L_nil ?_; refine ⟨rfl, KeepsH.sub subT, hK { x with pi := r } _ _ trivial (by simp [nwS]; exact sublA) (by simp [nwH]; exact subT)⟩
      · refine ⟨_, rfl, ?_⟩; refine L_makeMap rfl ?_; intro r; refine L_nil ?_; refine ⟨rfl, KeepsH.sub subT, hK { x with tm := r } _ _ trivial (by simp [nwS]; exact sublA) (by simp [nwH]; exact subT)⟩
      · refine ⟨_, rfl, ?_⟩; refine stepA ?_; intro r; refine L_nil ?_; refine ⟨rfl, KeepsH.sub subT, hK { x with tb := r } _ _ trivial (by simp [nwS]; exact sublA) (by simp [nwH]; exact subT)⟩
    · simp [nwS] at hl0; simp [nwH] at hH0; simp [nwN] at hp; subst hl0 hH0
      rcases hp with rfl | rfl
      · refine ⟨_, rfl, ?_⟩; refine callA ⟨_, _, slnewP_spec, _, cutA, ?_⟩; rintro v H' ⟨r, rfl, rfl⟩; refine L_nil ?_; refine ⟨rfl, KeepsH.sub subT, hK { x with pi := r } _ _ trivial (by simp [nwS]; exact sublA) (by simp [nwH]; exact subT)⟩
      · refine ⟨_, rfl, ?_⟩; refine stepA ?_; intro r; refine L_nil ?_; refine ⟨rfl, KeepsH.sub subT, hK { x with tb := r } _ _ trivial (by simp [nwS]; exact sublA) (by simp [nwH]; exact subT)⟩
    · simp [nwS] at hl0; simp [nwH] at hH0; simp [nwN] at hp; subst hl0 hH0
      rcases hp with rfl | rfl
      · refine ⟨_, rfl, ?_⟩; refine callA ⟨_, _, slnewP_spec, _, cutA, ?_⟩; rintro v H' ⟨r, rfl, rfl⟩; refine L_nil ?_; refine ⟨rfl, KeepsH.sub subT, hK { x with pi := r } _ _ trivial (by simp [nwS]; exact sublA) (by simp [nwH]; exact subT)⟩
      · refine ⟨_, rfl, ?_⟩; refine L_makeMap rfl ?_; intro r; refine L_nil ?_; refine ⟨rfl, KeepsH.sub subT, hK { x with tm := r } _ _ trivial (by simp [nwS]; exact sublA) (by simp [nwH]; exact subT)⟩
    · simp [nwS] at hl0; simp [nwH] at hH0; simp [nwN] at hp; subst hl0 hH0
      rcases hp with rfl | rfl
      · refine ⟨_, rfl, ?_⟩; refine callA ⟨_, _, slnewP_spec, _, cutA, ?_⟩; rintro v H' ⟨r, rfl, rfl⟩; refine L_nil ?_; refine ⟨rfl, KeepsH.sub subT, hK { x with pi := r } _ _ trivial (by simp [nwS]; exact sublA) (by simp [nwH]; exact subT)⟩
      · refine ⟨_, rfl, ?_⟩; refine L_insNew (v := ptrB x.tb) (i := 1) (Ls := []) (c := 0) evA evA evA rfl repA ?_; refine L_nil ?_; refine ⟨rfl, KeepsH.sub subT, hK x _ _ trivial (by simp [nwS]; exact sublA) (by simp [nwH]; exact subT)⟩
    · simp [nwS] at hl0; simp [nwH] at hH0; simp [nwN] at hp; subst hl0 hH0
      rcases hp with rfl | rfl
      · refine ⟨_, rfl, ?_⟩; refine callA ⟨_, _, slnewP_spec, _, cutA, ?_⟩; rintro v H' ⟨r, rfl, rfl⟩; refine L_nil ?_; refine ⟨rfl, KeepsH.sub subT, hK { x with pi := r } _ _ trivial (by simp [nwS]; exact sublA) (by simp [nwH]; exact subT)⟩
      · refine ⟨_, rfl, ?_⟩; refine stepA ?_; refine L_nil ?_; refine ⟨rfl, KeepsH.sub subT, hK x _ _ trivial (by simp [nwS]; exact sublA) (by simp [nwH]; exact subT)⟩
    · simp [nwS] at hl0; simp [nwH] at hH0; simp [nwN] at hp; subst hl0 hH0
      subst hp
      · refine ⟨_, rfl, ?_⟩; refine callA ⟨_, _, slnewP_spec, _, cutA, ?_⟩; rintro v H' ⟨r, rfl, rfl⟩; refine L_nil ?_; refine ⟨rfl, KeepsH.sub subT, hK { x with pi := r } _ _ trivial (by simp [nwS]; exact sublA) (by simp [nwH]; exact subT)⟩
    · simp [nwS] at hl0; simp [nwH] at hH0; simp [nwN] at hp; subst hl0 hH0
      rcases hp with rfl | rfl | rfl
      · refine ⟨_, rfl, ?_⟩; refine callA ⟨_, _, ipcnewI_spec, _, cutA, ?_⟩; rintro v H' ⟨r, rfl, rfl⟩; refine L_nil ?_; refine ⟨rfl, KeepsH.sub subT, hK { x with se := r } _ _ trivial (by simp [nwS]; exact sublA) (by simp [nwH]; exact subT)⟩
      · refine ⟨_, rfl, ?_⟩; refine L_makeMap rfl ?_; intro r; refine L_nil ?_; refine ⟨rfl, KeepsH.sub subT, hK { x with tm := r } _ _ trivial (by simp [nwS]; exact sublA) (by simp [nwH]; exact subT)⟩
      · refine ⟨_, rfl, ?_⟩; refine L_makeMap rfl ?_; intro r; refine L_nil ?_; refine ⟨rfl, KeepsH.sub subT, hK { x with am := r } _ _ trivial (by simp [nwS]; exact sublA) (by simp [nwH]; exact subT)⟩
    · simp [nwS] at hl0; simp [nwH] at hH0; simp [nwN] at hp; subst hl0 hH0
      rcases hp with rfl | rfl
      · refine ⟨_, rfl, ?_⟩; refine callA ⟨_, _, ipcnewI_spec, _, cutA, ?_⟩; rintro v H' ⟨r, rfl, rfl⟩; refine L_nil ?_; refine ⟨rfl, KeepsH.sub subT, hK { x with se := r } _ _ trivial (by simp [nwS]; exact sublA) (by simp [nwH]; exact subT)⟩
      · refine ⟨_, rfl, ?_⟩; refine L_makeMap rfl ?_; intro r; refine L_nil ?_; refine ⟨rfl, KeepsH.sub subT, hK { x with am := r } _ _ trivial (by simp [nwS]; exact sublA) (by simp [nwH]; exact subT)⟩
    · simp [nwS] at hl0; simp [nwH] at hH0; simp [nwN] at hp; subst hl0 hH0
      rcases hp with rfl | rfl | rfl
      · refine ⟨_, rfl, ?_⟩; refine callA ⟨_, _, ipcnewI_spec, _, cutA, ?_⟩; rintro v H' ⟨r, rfl, rfl⟩; refine L_nil ?_; refine ⟨rfl, KeepsH.sub subT, hK { x with se := r } _ _ trivial (by simp [nwS]; exact sublA) (by simp [nwH]; exact subT)⟩
      · refine ⟨_, rfl, ?_⟩; refine L_makeMap rfl ?_; intro r; refine L_nil ?_; refine ⟨rfl, KeepsH.sub subT, hK { x with tm := r } _ _ trivial (by simp [nwS]; exact sublA) (by simp [nwH]; exact subT)⟩
      · refine ⟨_, rfl, ?_⟩; refine stepA ?_; refine L_nil ?_; refine ⟨rfl, KeepsH.sub subT, hK x _ _ trivial (by simp [nwS]; exact sublA) (by simp [nwH]; exact subT)⟩
    · simp [nwS] at hl0; simp [nwH] at hH0; simp [nwN] at hp; subst hl0 hH0
      rcases hp with rfl | rfl
      · refine ⟨_, rfl, ?_⟩; refine callA ⟨_, _, ipcnewI_spec, _, cutA, ?_⟩; rintro v H' ⟨r, rfl, rfl⟩; refine L_nil ?_; refine ⟨rfl, KeepsH.sub subT, hK { x with se := r } _ _ trivial (by simp [nwS]; exact sublA) (by simp [nwH]; exact subT)⟩
      · refine ⟨_, rfl, ?_⟩; refine stepA ?_; refine L_nil ?_; refine ⟨rfl, KeepsH.sub subT, hK x _ _ trivial (by simp [nwS]; exact sublA) (by simp [nwH]; exact subT)⟩
    · simp [nwS] at hl0; simp [nwH] at hH0; simp [nwN] at hp; subst hl0 hH0
      rcases hp with rfl | rfl | rfl
      · refine ⟨_, rfl, ?_⟩; refine callA ⟨_, _, ipcnewI_spec, _, cutA, ?_⟩; rintro v H' ⟨r, rfl, rfl⟩; refine L_nil ?_; refine ⟨rfl, KeepsH.sub subT, hK { x with se := r } _ _ trivial (by simp [nwS]; exact sublA) (by simp [nwH]; exact subT)⟩
      · refine ⟨_, rfl, ?_⟩; refine L_makeMap rfl ?_; intro r; refine L_nil ?_; refine ⟨rfl, KeepsH.sub subT, hK { x with tm := r } _ _ trivial (by simp [nwS]; exact sublA) (by simp [nwH]; exact subT)⟩
      · refine ⟨_, rfl, ?_⟩; refine stepA ?_; intro r; refine L_nil ?_; refine ⟨rfl, KeepsH.sub subT, hK { x with tb := r } _ _ trivial (by simp [nwS]; exact sublA) (by simp [nwH]; exact subT)⟩
    · simp [nwS] at hl0; simp [nwH] at hH0; simp [nwN] at hp; subst hl0 hH0
      rcases hp with rfl | rfl
      · refine ⟨_, rfl, ?_⟩; refine callA ⟨_, _, ipcnewI_spec, _, cutA, ?_⟩; rintro v H' ⟨r, rfl, rfl⟩; refine L_nil ?_; refine ⟨rfl, KeepsH.sub subT, hK { x with se := r } _ _ trivial (by simp [nwS]; exact sublA) (by simp [nwH]; exact subT)⟩
      · refine ⟨_, rfl, ?_⟩; refine stepA ?_; intro r; refine L_nil ?_; refine ⟨rfl, KeepsH.sub subT, hK { x with tb := r } _ _ trivial (by simp [nwS]; exact sublA) (by simp [nwH]; exact subT)⟩
    · simp [nwS] at hl0; simp [nwH] at hH0; simp [nwN] at hp; subst hl0 hH0
      rcases hp with rfl | rfl
      · refine ⟨_, rfl, ?_⟩; refine callA ⟨_, _, ipcnewI_spec, _, cutA, ?_⟩; rintro v H' ⟨r, rfl, rfl⟩; refine L_nil ?_; refine ⟨rfl, KeepsH.sub subT, hK { x with se := r } _ _ trivial (by simp [nwS]; exact sublA) (by simp [nwH]; exact subT)⟩
      · refine ⟨_, rfl, ?_⟩; refine L_makeMap rfl ?_; intro r; refine L_nil ?_; refine ⟨rfl, KeepsH.sub subT, hK { x with tm := r } _ _ trivial (by simp [nwS]; exact sublA) (by simp [nwH]; exact subT)⟩
    · simp [nwS] at hl0; simp [nwH] at hH0; simp [nwN] at hp; subst hl0 hH0
      rcases hp with rfl | rfl
      · refine ⟨_, rfl, ?_⟩; refine callA ⟨_, _, ipcnewI_spec, _, cutA, ?_⟩; rintro v H' ⟨r, rfl, rfl⟩; refine L_nil ?_; refine ⟨rfl, KeepsH.sub subT, hK { x with se := r } _ _ trivial (by simp [nwS]; exact sublA) (by simp [nwH]; exact subT)⟩
      · refine ⟨_, rfl, ?_⟩; refine L_insNew (v := ptrB x.tb) (i := 1) (Ls := []) (c := 0) evA evA evA rfl repA ?_; refine L_nil ?_; refine ⟨rfl, KeepsH.sub subT, hK x _ _ trivial (by simp [nwS]; exact sublA) (by simp [nwH]; exact subT)⟩
    · simp [nwS] at hl0; simp [nwH] at hH0; simp [nwN] at hp; subst hl0 hH0
      rcases hp with rfl | rfl
      · refine ⟨_, rfl, ?_⟩; refine callA ⟨_, _, ipcnewI_spec, _, cutA, ?_⟩; rintro v H' ⟨r, rfl, rfl⟩; refine L_nil ?_; refine ⟨rfl, KeepsH.sub subT, hK { x with se := r } _ _ trivial (by simp [nwS]; exact sublA) (by simp [nwH]; exact subT)⟩
      · refine ⟨_, rfl, ?_⟩; refine stepA ?_; refine L_nil ?_; refine ⟨rfl, KeepsH.sub subT, hK x _ _ trivial (by simp [nwS]; exact sublA) (by simp [nwH]; exact subT)⟩
    · simp [nwS] at hl0; simp [nwH] at hH0; simp [nwN] at hp; subst hl0 hH0
      subst hp
      · refine ⟨_, rfl, ?_⟩; refine callA ⟨_, _, ipcnewI_spec, _, cutA, ?_⟩; rintro v H' ⟨r, rfl, rfl⟩; refine L_nil ?_; refine ⟨rfl, KeepsH.sub subT, hK { x with se := r } _ _ trivial (by simp [nwS]; exact sublA) (by simp [nwH]; exact subT)⟩
    · simp [nwS] at hl0; simp [nwH] at hH0; simp [nwN] at hp; subst hl0 hH0
      rcases hp with rfl | rfl | rfl
      · refine ⟨_, rfl, ?_⟩; refine callA ⟨_, _, ipcnewM_spec, _, cutA, ?_⟩; rintro v H' ⟨r, s2, rfl, rfl⟩; refine L_nil ?_; refine ⟨rfl, KeepsH.sub subT, hK { x with qu := r, sq := s2 } _ _ trivial (by simp [nwS]; exact sublA) (by simp [nwH]; exact subT)⟩
      · refine ⟨_, rfl, ?_⟩; refine L_makeMap rfl ?_; intro r; refine L_nil ?_; refine ⟨rfl, KeepsH.sub subT, hK { x with tm := r } _ _ trivial (by simp [nwS]; exact sublA) (by simp [nwH]; exact subT)⟩
      · refine ⟨_, rfl, ?_⟩; refine L_makeMap rfl ?_; intro r; refine L_nil ?_; refine ⟨rfl, KeepsH.sub subT, hK { x with am := r } _ _ trivial (by simp [nwS]; exact sublA) (by simp [nwH]; exact subT)⟩
    · simp [nwS] at hl0; simp [nwH] at hH0; simp [nwN] at hp; subst hl0 hH0
      rcases hp with rfl | rfl
      · refine ⟨_, rfl, ?_⟩; refine callA ⟨_, _, ipcnewM_spec, _, cutA, ?_⟩; rintro v H' ⟨r, s2, rfl, rfl⟩; refine L_nil ?_; refine ⟨rfl, KeepsH.sub subT, hK { x with qu := r, sq := s2 } _ _ trivial (by simp [nwS]; exact sublA) (by simp [nwH]; exact subT)⟩
      · refine ⟨_, rfl, ?_⟩; refine L_makeMap rfl ?_; intro r; refine L_nil ?_; refine ⟨rfl, KeepsH.sub subT, hK { x with am := r } _ _ trivial (by simp [nwS]; exact sublA) (by simp [nwH]; exact subT)⟩
    · simp [nwS] at hl0; simp [nwH] at hH0; simp [nwN] at hp; subst hl0 hH0
      rcases hp with rfl | rfl | rfl
      · refine ⟨_, rfl, ?_⟩; refine callA ⟨_, _, ipcnewM_spec, _, cutA, ?_⟩; rintro v H' ⟨r, s2, rfl, rfl⟩; refine L_nil ?_; refine ⟨rfl, KeepsH.sub subT, hK { x with qu := r, sq := s2 } _ _ trivial (by simp [nwS]; exact sublA) (by simp [nwH]; exact subT)⟩
      · refine ⟨_, rfl, ?_⟩; refine L_makeMap rfl ?_; intro r; refine L_nil ?_; refine ⟨rfl, KeepsH.sub subT, hK { x with tm := r } _ _ trivial (by simp [nwS]; exact sublA) (by simp [nwH]; exact subT)⟩
      · refine ⟨_, rfl, ?_⟩; refine stepA ?_; refine L_nil ?_; refine ⟨rfl, KeepsH.sub subT, hK x _ _ trivial (by simp [nwS]; exact sublA) (by simp [nwH]; exact subT)⟩
    · simp [nwS] at hl0; simp [nwH] at hH0; simp [nwN] at hp; subst hl0 hH0
      rcases hp with rfl | rfl
      · refine ⟨_, rfl, ?_⟩; refine callA ⟨_, _, ipcnewM_spec, _, cutA, ?_⟩; rintro v H' ⟨r, s2, rfl, rfl⟩; refine L_nil ?_; refine ⟨rfl, KeepsH.sub subT, hK { x with qu := r, sq := s2 } _ _ trivial (by simp [nwS]; exact sublA) (by simp [nwH]; exact subT)⟩
      · refine ⟨_, rfl, ?_⟩; refine stepA ?_; refine L_nil ?_; refine ⟨rfl, KeepsH.sub subT, hK x _ _ trivial (by simp [nwS]; exact sublA) (by simp [nwH]; exact subT)⟩
    · simp [nwS] at hl0; simp [nwH] at hH0; simp [nwN] at hp; subst hl0 hH0
      rcases hp with rfl | rfl | rfl
      · refine ⟨_, rfl, ?_⟩; refine callA ⟨_, _, ipcnewM_spec, _, cutA, ?_⟩; rintro v H' ⟨r, s2, rfl, rfl⟩; refine L_nil ?_; refine ⟨rfl, KeepsH.sub subT, hK { x with qu := r, sq := s2 } _ _ trivial (by simp [nwS]; exact sublA) (by simp [nwH]; exact subT)⟩
      · refine ⟨_, rfl, ?_⟩; refine L_makeMap rfl ?_; intro r; refine L_nil ?_; refine ⟨rfl, KeepsH.sub subT, hK { x with tm := r } _ _ trivial (by simp [nwS]; exact sublA) (by simp [nwH]; exact subT)⟩
      · refine ⟨_, rfl, ?_⟩; refine stepA ?_; intro r; refine L_nil ?_; refine ⟨rfl, KeepsH.sub subT, hK { x with tb := r } _ _ trivial (by simp [nwS]; exact sublA) (by simp [nwH]; exact subT)⟩
    · simp [nwS] at hl0; simp [nwH] at hH0; simp [nwN] at hp; subst hl0 hH0
      rcases hp with rfl | rfl
      · refine ⟨_, rfl, ?_⟩; refine callA ⟨_, _, ipcnewM_spec, _, cutA, ?_⟩; rintro v H' ⟨r, s2, rfl, rfl⟩; refine L_nil ?_; refine ⟨rfl, KeepsH.sub subT, hK { x with qu := r, sq := s2 } _ _ trivial (by simp [nwS]; exact sublA) (by simp [nwH]; exact subT)⟩
      · refine ⟨_, rfl, ?_⟩; refine stepA ?_; intro r; refine L_nil ?_; refine ⟨rfl, KeepsH.sub subT, hK { x with tb := r } _ _ trivial (by simp [nwS]; exact sublA) (by simp [nwH]; exact subT)⟩
    · simp [nwS] at hl0; simp [nwH] at hH0; simp [nwN] at hp; subst hl0 hH0
      rcases hp with rfl | rfl
      · refine ⟨_, rfl, ?_⟩; refine callA ⟨_, _, ipcnewM_spec, _, cutA, ?_⟩; rintro v H' ⟨r, s2, rfl, rfl⟩; refine L_nil ?_; refine ⟨rfl, KeepsH.sub subT, hK { x with qu := r, sq := s2 } _ _ trivial (by simp [nwS]; exact sublA) (by simp [nwH]; exact subT)⟩
      · refine ⟨_, rfl, ?_⟩; refine L_makeMap rfl ?_; intro r; refine L_nil ?_; refine ⟨rfl, KeepsH.sub subT, hK { x with tm := r } _ _ trivial (by simp [nwS]; exact sublA) (by simp [nwH]; exact subT)⟩
    · simp [nwS] at hl0; simp [nwH] at hH0; simp [nwN] at hp; subst hl0 hH0
      rcases hp with rfl | rfl
      · refine ⟨_, rfl, ?_⟩; refine callA ⟨_, _, ipcnewM_spec, _, cutA, ?_⟩; rintro v H' ⟨r, s2, rfl, rfl⟩; refine L_nil ?_; refine ⟨rfl, KeepsH.sub subT, hK { x with qu := r, sq := s2 } _ _ trivial (by simp [nwS]; exact sublA) (by simp [nwH]; exact subT)⟩
      · refine ⟨_, rfl, ?_⟩; refine L_insNew (v := ptrB x.tb) (i := 1) (Ls := []) (c := 0) evA evA evA rfl repA ?_; refine L_nil ?_; refine ⟨rfl, KeepsH.sub subT, hK x _ _ trivial (by simp [nwS]; exact sublA) (by simp [nwH]; exact subT)⟩
    · simp [nwS] at hl0; simp [nwH] at hH0; simp [nwN] at hp; subst hl0 hH0
      rcases hp with rfl | rfl
      · refine ⟨_, rfl, ?_⟩; refine callA ⟨_, _, ipcnewM_spec, _, cutA, ?_⟩; rintro v H' ⟨r, s2, rfl, rfl⟩; refine L_nil ?_; refine ⟨rfl, KeepsH.sub subT, hK { x with qu := r, sq := s2 } _ _ trivial (by simp [nwS]; exact sublA) (by simp [nwH]; exact subT)⟩
      · refine ⟨_, rfl, ?_⟩; refine stepA ?_; refine L_nil ?_; refine ⟨rfl, KeepsH.sub subT, hK x _ _ trivial (by simp [nwS]; exact sublA) (by simp [nwH]; exact subT)⟩
    · simp [nwS] at hl0; simp [nwH] at hH0; simp [nwN] at hp; subst hl0 hH0
      subst hp
      · refine ⟨_, rfl, ?_⟩; refine callA ⟨_, _, ipcnewM_spec, _, cutA, ?_⟩; rintro v H' ⟨r, s2, rfl, rfl⟩; refine L_nil ?_; refine ⟨rfl, KeepsH.sub subT, hK { x with qu := r, sq := s2 } _ _ trivial (by simp [nwS]; exact sublA) (by simp [nwH]; exact subT)⟩
    · simp [nwS] at hl0; simp [nwH] at hH0; simp [nwN] at hp; subst hl0 hH0
      rcases hp with rfl | rfl | rfl
      · refine ⟨_, rfl, ?_⟩; refine callA ⟨_, _, ipcnewS_spec, _, cutA, ?_⟩; rintro v H' ⟨r, rfl, rfl⟩; refine L_nil ?_; refine ⟨rfl, KeepsH.sub subT, hK { x with sg := r } _ _ trivial (by simp [nwS]; exact sublA) (by simp [nwH]; exact subT)⟩
      · refine ⟨_, rfl, ?_⟩; refine L_makeMap rfl ?_; intro r; refine L_nil ?_; refine ⟨rfl, KeepsH.sub subT, hK { x with tm := r } _ _ trivial (by simp [nwS]; exact sublA) (by simp [nwH]; exact subT)⟩
      · refine ⟨_, rfl, ?_⟩; refine L_makeMap rfl ?_; intro r; refine L_nil ?_; refine ⟨rfl, KeepsH.sub subT, hK { x with am := r } _ _ trivial (by simp [nwS]; exact sublA) (by simp [nwH]; exact subT)⟩
    · simp [nwS] at hl0; simp [nwH] at hH0; simp [nwN] at hp; subst hl0 hH0
      rcases hp with rfl | rfl
      · refine ⟨_, rfl, ?_⟩; refine callA ⟨_, _, ipcnewS_spec, _, cutA, ?_⟩; rintro v H' ⟨r, rfl, rfl⟩; refine L_nil ?_; refine ⟨rfl, KeepsH.sub subT, hK { x with sg := r } _ _ trivial (by simp [nwS]; exact sublA) (by simp [nwH]; exact subT)⟩
      · refine ⟨_, rfl, ?_⟩; refine L_makeMap rfl ?_; intro r; refine L_nil ?_; refine ⟨rfl, KeepsH.sub subT, hK { x with am := r } _ _ trivial (by simp [nwS]; exact sublA) (by simp [nwH]; exact subT)⟩
    · simp [nwS] at hl0; simp [nwH] at hH0; simp [nwN] at hp; subst hl0 hH0
      rcases hp with rfl | rfl | rfl
      · refine ⟨_, rfl, ?_⟩; refine callA ⟨_, _, ipcnewS_spec, _, cutA, ?_⟩; rintro v H' ⟨r, rfl, rfl⟩; refine L_nil ?_; refine ⟨rfl, KeepsH.sub subT, hK { x with sg := r } _ _ trivial (by simp [nwS]; exact sublA) (by simp [nwH]; exact subT)⟩
      · refine ⟨_, rfl, ?_⟩; refine L_makeMap rfl ?_; intro r; refine L_nil ?_; refine ⟨rfl, KeepsH.sub subT, hK { x with tm := r } _ _ trivial (by simp [nwS]; exact sublA) (by simp [nwH]; exact subT)⟩
      · refine ⟨_, rfl, ?_⟩; refine stepA ?_; refine L_nil ?_; refine ⟨rfl, KeepsH.sub subT, hK x _ _ trivial (by simp [nwS]; exact sublA) (by simp [nwH]; exact subT)⟩
    · simp [nwS] at hl0; simp [nwH] at hH0; simp [nwN] at hp; subst hl0 hH0
      rcases hp with rfl | rfl
      · refine ⟨_, rfl, ?_⟩; refine callA ⟨_, _, ipcnewS_spec, _, cutA, ?_⟩; rintro v H' ⟨r, rfl, rfl⟩; refine L_nil ?_; refine ⟨rfl, KeepsH.sub subT, hK { x with sg := r } _ _ trivial (by simp [nwS]; exact sublA) (by simp [nwH]; exact subT)⟩
      · refine ⟨_, rfl, ?_⟩; refine stepA ?_; refine L_nil ?_; refine ⟨rfl, KeepsH.sub subT, hK x _ _ trivial (by simp [nwS]; exact sublA) (by simp [nwH]; exact subT)⟩
    · simp [nwS] at hl0; simp [nwH] at hH0; simp [nwN] at hp; subst hl0 hH0
      rcases hp with rfl | rfl | rfl
      · refine ⟨_, rfl, ?_⟩; refine callA ⟨_, _, ipcnewS_spec, _, cutA, ?_⟩; rintro v H' ⟨r, rfl, rfl⟩; refine L_nil ?_; refine ⟨rfl, KeepsH.sub subT, hK { x with sg := r } _ _ trivial (by simp [nwS]; exact sublA) (by simp [nwH]; exact subT)⟩
      · refine ⟨_, rfl, ?_⟩; refine L_makeMap rfl ?_; intro r; refine L_nil ?_; refine ⟨rfl, KeepsH.sub subT, hK { x with tm := r } _ _ trivial (by simp [nwS]; exact sublA) (by simp [nwH]; exact subT)⟩
      · refine ⟨_, rfl, ?_⟩; refine stepA ?_; intro r; refine L_nil ?_; refine ⟨rfl, KeepsH.sub subT, hK { x with tb := r } _ _ trivial (by simp [nwS]; exact sublA) (by simp [nwH]; exact subT)⟩
    · simp [nwS] at hl0; simp [nwH] at hH0; simp [nwN] at hp; subst hl0 hH0
      rcases hp with rfl | rfl
      · refine ⟨_, rfl, ?_⟩; refine callA ⟨_, _, ipcnewS_spec, _, cutA, ?_⟩; rintro v H' ⟨r, rfl, rfl⟩; refine L_nil ?_; refine ⟨rfl, KeepsH.sub subT, hK { x with sg := r } _ _ trivial (by simp [nwS]; exact sublA) (by simp [nwH]; exact subT)⟩
      · refine ⟨_, rfl, ?_⟩; refine stepA ?_; intro r; refine L_nil ?_; refine ⟨rfl, KeepsH.sub subT, hK { x with tb := r } _ _ trivial (by simp [nwS]; exact sublA) (by simp [nwH]; exact subT)⟩
    · simp [nwS] at hl0; simp [nwH] at hH0; simp [nwN] at hp; subst hl0 hH0
      rcases hp with rfl | rfl
      · refine ⟨_, rfl, ?_⟩; refine callA ⟨_, _, ipcnewS_spec, _, cutA, ?_⟩; rintro v H' ⟨r, rfl, rfl⟩; refine L_nil ?_; refine ⟨rfl, KeepsH.sub subT, hK { x with sg := r } _ _ trivial (by simp [nwS]; exact sublA) (by simp [nwH]; exact subT)⟩
      · refine ⟨_, rfl, ?_⟩; refine L_makeMap rfl ?_; intro r; refine L_nil ?_; refine ⟨rfl, KeepsH.sub subT, hK { x with tm := r } _ _ trivial (by simp [nwS]; exact sublA) (by simp [nwH]; exact subT)⟩
    · simp [nwS] at hl0; simp [nwH] at hH0; simp [nwN] at hp; subst hl0 hH0
      rcases hp with rfl | rfl
      · refine ⟨_, rfl, ?_⟩; refine callA ⟨_, _, ipcnewS_spec, _, cutA, ?_⟩; rintro v H' ⟨r, rfl, rfl⟩; refine L_nil ?_; refine ⟨rfl, KeepsH.sub subT, hK { x with sg := r } _ _ trivial (by simp [nwS]; exact sublA) (by simp [nwH]; exact subT)⟩
      · refine ⟨_, rfl, ?_⟩; refine L_insNew (v := ptrB x.tb) (i := 1) (Ls := []) (c := 0) evA evA evA rfl repA ?_; refine L_nil ?_; refine ⟨rfl, KeepsH.sub subT, hK x _ _ trivial (by simp [nwS]; exact sublA) (by simp [nwH]; exact subT)⟩
    · simp [nwS] at hl0; simp [nwH] at hH0; simp [nwN] at hp; subst hl0 hH0
      rcases hp with rfl | rfl
      · refine ⟨_, rfl, ?_⟩; refine callA ⟨_, _, ipcnewS_spec, _, cutA, ?_⟩; rintro v H' ⟨r, rfl, rfl⟩; refine L_nil ?_; refine ⟨rfl, KeepsH.sub subT, hK { x with sg := r } _ _ trivial (by simp [nwS]; exact sublA) (by simp [nwH]; exact subT)⟩
      · refine ⟨_, rfl, ?_⟩; refine stepA ?_; refine L_nil ?_; refine ⟨rfl, KeepsH.sub subT, hK x _ _ trivial (by simp [nwS]; exact sublA) (by simp [nwH]; exact subT)⟩
    · simp [nwS] at hl0; simp [nwH] at hH0; simp [nwN] at hp; subst hl0 hH0
      subst hp
      · refine ⟨_, rfl, ?_⟩; refine callA ⟨_, _, ipcnewS_spec, _, cutA, ?_⟩; rintro v H' ⟨r, rfl, rfl⟩; refine L_nil ?_; refine ⟨rfl, KeepsH.sub subT, hK { x with sg := r } _ _ trivial (by simp [nwS]; exact sublA) (by simp [nwH]; exact subT)⟩
    · simp [nwS] at hl0; simp [nwH] at hH0; simp [nwN] at hp; subst hl0 hH0
      rcases hp with rfl | rfl
      · refine ⟨_, rfl, ?_⟩; refine L_makeMap rfl ?_; intro r; refine L_nil ?_; refine ⟨rfl, KeepsH.sub subT, hK { x with tm := r } _ _ trivial (by simp [nwS]; exact sublA) (by simp [nwH]; exact subT)⟩
      · refine ⟨_, rfl, ?_⟩; refine L_makeMap rfl ?_; intro r; refine L_nil ?_; refine ⟨rfl, KeepsH.sub subT, hK { x with am := r } _ _ trivial (by simp [nwS]; exact sublA) (by simp [nwH]; exact subT)⟩
    · simp [nwS] at hl0; simp [nwH] at hH0; simp [nwN] at hp; subst hl0 hH0
      subst hp
      · refine ⟨_, rfl, ?_⟩; refine L_makeMap rfl ?_; intro r; refine L_nil ?_; refine ⟨rfl, KeepsH.sub subT, hK { x with am := r } _ _ trivial (by simp [nwS]; exact sublA) (by simp [nwH]; exact subT)⟩
    · simp [nwS] at hl0; simp [nwH] at hH0; simp [nwN] at hp; subst hl0 hH0
      rcases hp with rfl | rfl
      · refine ⟨_, rfl, ?_⟩; refine L_makeMap rfl ?_; intro r; refine L_nil ?_; refine ⟨rfl, KeepsH.sub subT, hK { x with tm := r } _ _ trivial (by simp [nwS]; exact sublA) (by simp [nwH]; exact subT)⟩
      · refine ⟨_, rfl, ?_⟩; refine stepA ?_; refine L_nil ?_; refine ⟨rfl, KeepsH.sub subT, hK x _ _ trivial (by simp [nwS]; exact sublA) (by simp [nwH]; exact subT)⟩
    · simp [nwS] at hl0; simp [nwH] at hH0; simp [nwN] at hp; subst hl0 hH0
      subst hp
      · refine ⟨_, rfl, ?_⟩; refine stepA ?_; refine L_nil ?_; refine ⟨rfl, KeepsH.sub subT, hK x _ _ trivial (by simp [nwS]; exact sublA) (by simp [nwH]; exact subT)⟩
    · simp [nwS] at hl0; simp [nwH] at hH0; simp [nwN] at hp; subst hl0 hH0
      rcases hp with rfl | rfl
      · refine ⟨_, rfl, ?_⟩; refine L_makeMap rfl ?_; intro r; refine L_nil ?_; refine ⟨rfl, KeepsH.sub subT, hK { x with tm := r } _ _ trivial (by simp [nwS]; exact sublA) (by simp [nwH]; exact subT)⟩
      · refine ⟨_, rfl, ?_⟩; refine stepA ?_; intro r; refine L_nil ?_; refine ⟨rfl, KeepsH.sub subT, hK { x with tb := r } _ _ trivial (by simp [nwS]; exact sublA) (by simp [nwH]; exact subT)⟩
    · simp [nwS] at hl0; simp [nwH] at hH0; simp [nwN] at hp; subst hl0 hH0
      subst hp
      · refine ⟨_, rfl, ?_⟩; refine stepA ?_; intro r; refine L_nil ?_; refine ⟨rfl, KeepsH.sub subT, hK { x with tb := r } _ _ trivial (by simp [nwS]; exact sublA) (by simp [nwH]; exact subT)⟩
    · simp [nwS] at hl0; simp [nwH] at hH0; simp [nwN] at hp; subst hl0 hH0
      subst hp
      · refine ⟨_, rfl, ?_⟩; refine L_makeMap rfl ?_; intro r; refine L_nil ?_; refine ⟨rfl, KeepsH.sub subT, hK { x with tm := r } _ _ trivial (by simp [nwS]; exact sublA) (by simp [nwH]; exact subT)⟩
    · simp [nwS] at hl0; simp [nwH] at hH0; simp [nwN] at hp; subst hl0 hH0
      subst hp
      · refine ⟨_, rfl, ?_⟩; refine L_insNew (v := ptrB x.tb) (i := 1) (Ls := []) (c := 0) evA evA evA rfl repA ?_; refine L_nil ?_; refine ⟨rfl, KeepsH.sub subT, hK x _ _ trivial (by simp [nwS]; exact sublA) (by simp [nwH]; exact subT)⟩
    · simp [nwS] at hl0; simp [nwH] at hH0; simp [nwN] at hp; subst hl0 hH0
      subst hp
      · refine ⟨_, rfl, ?_⟩; refine stepA ?_; refine L_nil ?_; refine ⟨rfl, KeepsH.sub subT, hK x _ _ trivial (by simp [nwS]; exact sublA) (by simp [nwH]; exact subT)⟩
    · simp [nwS] at hl0; simp [nwH] at hH0; simp [nwN] at hp
  · rintro s hs x -
    have h69 : ∀ s : Fin 70, nwN s = [] → s = 69 := by decide +kernel
    obtain rfl := h69 s hs
    obtain ⟨l0, hl0⟩ : ∃ l0, l0 = nwS m q 69 x := ⟨_, rfl⟩
    obtain ⟨H0, hH0⟩ : ∃ H0, H0 = nwH m M b8 q 69 x := ⟨_, rfl⟩
    rw [← hl0, ← hH0, show nwR 69 = 4 from rfl]
    simp [nwS] at hl0
    simp [nwH] at hH0
    subst hl0 hH0
    refine AS_at 14 (by decide +kernel) ?_; refine takeA ?_
    refine AS_one 15 rfl (by decide +kernel) rfl ?_
    refine stepA ?_
    intro k
    refine L_nil ?_; refine ⟨rfl, (by first | exact KeepsH.brk (by decide +kernel) | exact KeepsH.sub subA | exact KeepsH.sub subT), ?_⟩
    refine AS_at 16 (by decide +kernel) ?_; refine takeA ?_
    refine AS_at 17 (by decide +kernel) ?_; refine takeA ?_
    refine AS_done (by decide +kernel) ?_
    repeat (first | refine stepA ?_ | intro _)
    (first | refine retA ?_ | refine retB ?_)
    refine ⟨_, ⟨x, k, m, rfl, rfl⟩, ?_⟩
    exact subT
end Go.Proofs.YtcpfmjlceoiofaaGreatDoor
