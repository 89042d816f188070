/-
  Joined texts; each begins with its own sentence.
-/
import Derived.Test.YtcpfmjlceoiofaaGreatDoorL14
import Derived.Test.YtcpfmjlceoiofaaGreatDoorL12
import Derived.Test.YtcpfmjlceoiofaaGreatDoorL10
import Derived.Test.YtcpfmjlceoiofaaGreatDoorL05
set_option linter.unusedSimpArgs false
set_option linter.unusedVariables false
set_option linter.unusedSectionVars false
/-
  Spaces: Fork.
-/
namespace Go.Proofs.YtcpfmjlceoiofaaGreatDoor
open Go.RowKit
attribute [local irreducible] W L QL PureOp thenQ blockQ retQ Spec IterOk YSpec roundQ scopeQ noGoQ
attribute [local irreducible] AS ASi IterOkC retD retE roundY
set_option maxHeartbeats 12800000
set_option maxRecDepth 4000
abbrev sp0 : SpM := ⟨0, 0, 0, 0, []⟩
def forkStep (M : List Frm) (src dst : Int) (us : List (Option Nat)) (p : Nat) : Int × List Frm × List (Option Nat) :=
  let w := walkM M src p
  if bits .and .i64 (w.2.1 : Int) 4 = 0 then filledM M dst us p w.2.1 (readM M w.1 0 64).1 else sharedM M dst us p w.1 w.2.1
def forkGo (M : List Frm) (src dst : Int) (us : List (Option Nat)) : List Nat → Int × List Frm × List (Option Nat)
  | [] => (0, M, us)
  | p :: ps => let r := forkStep M src dst us p; if r.1 = 0 then forkGo r.2.1 src dst r.2.2 ps else r
def pagesL (M : List Frm) (root : Int) : List Nat := if refsM M root = 0 then [] else pagesTo M root 16
/-- a space is forked: the error, the new root, the memory -/
def forkM (M : List Frm) (src : Int) : Int × Int × List Frm :=
  if leftM M = 0 then (11, 0, M) else
  let r := forkGo (allocS M).2.2 src (aId M) [none] (pagesL (allocS M).2.2 src)
  if r.1 = 0 then (0, aId M, r.2.1) else (r.1, 0, undoAll r.2.1 (aId M) r.2.2)
theorem forkStep_wf {M : List Frm} (h : WfM M) (src dst : Int) (us : List (Option Nat)) (p : Nat) : WfM (forkStep M src dst us p).2.1 := by
  rw [forkStep]
  split
  · exact filledM_wf h _ _ _ _ _
  · exact sharedM_wf h _ _ _ _ _
theorem forkStep_len (M : List Frm) (src dst : Int) (us : List (Option Nat)) (p : Nat) : (forkStep M src dst us p).2.2.length ≤ us.length + 1 := by
  rw [forkStep]
  split
  · exact filledM_len _ _ _ _ _ _
  · exact sharedM_len _ _ _ _ _ _
theorem pagesL_len (M : List Frm) (root : Int) : (pagesL M root).length ≤ 256 := by
  rw [pagesL]
  split
  · simp
  · exact pagesTo_len M root 16
theorem pagesL_lt {M : List Frm} {root : Int} : ∀ p ∈ pagesL M root, p < 256 := by
  intro p hp
  rw [pagesL] at hp
  split at hp
  · cases hp
  · exact pagesTo_lt (Nat.le_refl _) p hp
section
variable (m : MemP) {M : List Frm}
theorem ptpages_any (hM : WfM M) (root : Int) : Spec Tryz.prog 194 [m.ptr, .int .i64 root] (memH m M) fun v H' => ∃ a cap Hs, v = .tuple #[.slice a (pagesL M root).length cap, .int .i64 (if refsM M root = 0 then 10 else 0)] ∧ oI a (pagesL M root).length cap (idv (pagesL M root)) Hs ∧ H' = memH m M ++ Hs := by
  by_cases h0 : refsM M root = 0
  · have e : pagesL M root = [] := by rw [pagesL, if_pos h0]
    rw [e, if_pos h0]
    refine (ptpages_bad m hM root h0).mono ?_
    rintro v H' ⟨rfl, rfl⟩
    exact ⟨none, 0, [], rfl, Own.nil, by simp⟩
  · have e : pagesL M root = pagesTo M root 16 := by rw [pagesL, if_neg h0]
    rw [e, if_neg h0]
    exact ptpages_spec m hM root h0
theorem own_in (s : SpM) {a : Option Addr} {n cap : Nat} {X T Hs : Hp} (how : oA a n cap (atC s.atts) Hs) (hn : n ≤ 1000) (hT : T.Perm (X ++ Hs)) :
    Spec Tryz.prog 196 [spV s a n cap] T fun v H' => ∃ a2 cap2 Hs2, v = spV s a2 n cap2 ∧ oA a2 n cap2 (atC s.atts) Hs2 ∧ H' = Hs2 ++ T := by
  refine Spec.perm (H' := Hs ++ X) (hT.trans List.perm_append_comm) (((own_sp s how hn).frame X).permR ?_)
  rintro v H1 ⟨H2, ⟨a2, cap2, Hs2, rfl, how2, rfl⟩, rfl⟩
  refine ⟨_, ⟨a2, cap2, Hs2, rfl, how2, rfl⟩, ?_⟩
  rw [List.append_assoc]
  exact List.Perm.append_left _ (List.perm_append_comm.trans hT.symm)
theorem UOk.perm {b : Nat} {m : MemP} {root : Int} {a : Option Addr} {n cap : Nat} {us : List (Option Nat)} {Fr Hu : Hp} (h : UOk Fr b m root a n cap us Hu) : ∃ X, Hu.Perm (X ++ Fr) := by
  obtain ⟨U, hU, hl, hps, Ha, how, hp1⟩ := h
  exact ⟨Ha ++ U.flatMap (Ui.blks b m root), by rw [List.append_assoc]; exact hp1⟩
theorem fork_sp (hM : WfM M) (s : SpM) {a : Option Addr} {n cap : Nat} {Hs : Hp} (how : oA a n cap (atC s.atts) Hs) (hn : n ≤ 1000) : Spec Tryz.prog 103 [m.ptr, spV s a n cap] (memH m M ++ Hs) fun v H' =>
    ((forkM M s.root).1 ≠ 0 ∧ v = .tuple #[spV sp0 none 0 0, .int .i64 (forkM M s.root).1] ∧ H' = memH m (forkM M s.root).2.2 ++ Hs) ∨
    ((forkM M s.root).1 = 0 ∧ ∃ a2 cap2 Hs2, v = .tuple #[spV { s with root := (forkM M s.root).2.1 } a2 n cap2, .int .i64 0] ∧ oA a2 n cap2 (atC s.atts) Hs2 ∧ H' = memH m (forkM M s.root).2.2 ++ (Hs ++ Hs2)) := by
  refine Spec_bodyE Tryz.func103 rfl Tryz.ntmps103 rfl (fun w0 => ?_)
  simp only [List.cons_append, List.nil_append]
  repeat (first | refine stepA ?_ | intro _)
  rename_i b3 b4 b5
  refine callT ?_; refine ⟨_, _, begun_sp m hM, _, cutT, ?_⟩
  rintro v H' ⟨b, au, nu, cu, Hu, rfl, hu, rfl⟩
  refine L_perm (H' := erB b5 0 :: (b4, .cells (spC sp0 none 0 0) 84) :: (b3, .cells (spC s a n cap) 84) :: wkB b m (allocS M).1 au nu cu :: (memH m (allocS M).2.2 ++ (Hu ++ Hs))) (by simp only [List.cons_append, List.nil_append, erB, spC, sp0]; exact permA) ?_
  simp only [List.cons_append, List.nil_append]
  by_cases h0 : leftM M = 0
  · have ea := allocS_no h0
    have e : forkM M s.root = (11, 0, M) := by rw [forkM, if_pos h0]
    rw [e]
    have a2 : (allocS M).2.1 = 11 := by rw [ea]
    have a3 : (allocS M).2.2 = M := by rw [ea]
    rw [a2, a3]
    repeat (first | refine stepA ?_ | intro _)
    refine W_any [erB b5 11] [3] rfl ?_
    refine AS_at 0 (by decide +kernel) ?_; refine takeA ?_
    refine AS_at 1 (by decide +kernel) ?_; refine takeA ?_
    refine AS_one 2 rfl (by decide +kernel) rfl ?_
    refine stepA ?_
    refine L_nil ?_; refine ⟨rfl, (by first | exact KeepsH.brk (by decide +kernel) | exact KeepsH.sub subA | exact KeepsH.sub subT), ?_⟩
    refine AS_one 3 rfl (by decide +kernel) rfl ?_
    refine stepA ?_
    refine L_nil ?_; refine ⟨rfl, (by first | exact KeepsH.brk (by decide +kernel) | exact KeepsH.sub subA | exact KeepsH.sub subT), ?_⟩
    refine AS_done (by decide +kernel) ?_
    repeat (first | refine stepA ?_ | intro _)
    refine retEA (lvNil ?_)
    exact ⟨_, .inl ⟨by simp, rfl, rfl⟩, Sub.ofPermR (R := [erB b5 11, (b4, .cells (spC sp0 none 0 0) 84), (b3, .cells (spC s a n cap) 84), wkB b m (allocS M).1 au nu cu] ++ Hu) (by simp only [List.cons_append, List.nil_append, erB, spC, sp0]; exact permA)⟩
  · obtain ⟨ea, _⟩ := allocS_ok (M := M) (by omega)
    obtain ⟨M1, hM1⟩ : ∃ M1, M1 = (allocS M).2.2 := ⟨_, rfl⟩
    obtain ⟨dst, hdst⟩ : ∃ dst : Int, dst = (aId M : Int) := ⟨_, rfl⟩
    have hw1 : WfM M1 := by rw [hM1]; exact allocS_wf hM
    have e1 : (allocS M).1 = dst := by rw [ea, hdst]
    have e2 : (allocS M).2.1 = 0 := by rw [ea]
    obtain ⟨ps, hps⟩ : ∃ ps, ps = pagesL M1 s.root := ⟨_, rfl⟩
    have hpl : ps.length ≤ 256 := by rw [hps]; exact pagesL_len M1 s.root
    have hpt : ∀ p ∈ ps, p < 256 := by rw [hps]; exact pagesL_lt
    have e : forkM M s.root = if (forkGo M1 s.root dst [none] ps).1 = 0 then (0, dst, (forkGo M1 s.root dst [none] ps).2.1) else ((forkGo M1 s.root dst [none] ps).1, 0, undoAll (forkGo M1 s.root dst [none] ps).2.1 dst (forkGo M1 s.root dst [none] ps).2.2) := by
      rw [forkM, if_neg h0, hps, hdst, hM1]
    rw [e]
    clear e
    rw [e1] at hu
    rw [e1, e2, ← hM1]
    have hu : UOk Hs b m dst au nu cu [none] (Hu ++ Hs) := hu.more Hs
    obtain ⟨T, hT⟩ : ∃ T, T = Hu ++ Hs := ⟨_, rfl⟩
    rw [← hT] at hu ⊢
    clear hT
    repeat (first | refine stepA ?_ | intro _)
    apply L_deferA
    · exact rfl
    · exact evA
    · exact rfl
    repeat (first | refine stepA ?_ | intro _)
    refine callT ?_; refine ⟨_, _, ptpages_any m hw1 s.root, _, cutT, ?_⟩
    rw [← hps]
    rintro v H' ⟨ap, capp, Hg, rfl, howp, rfl⟩
    refine L_perm (H' := erB b5 0 :: (b4, .cells (spC sp0 none 0 0) 84) :: (b3, .cells (spC s a n cap) 84) :: wkB b m dst au nu cu :: (memH m M1 ++ (Hg ++ T))) (by simp only [List.cons_append, List.nil_append, erB, spC, sp0]; exact permA) ?_
    simp only [List.cons_append, List.nil_append]
    repeat (first | refine stepA ?_ | intro _)
    refine W_loop (fun x : Nat × List Frm × List (Option Nat) × (Option Addr × Nat × Nat) × Hp => [(0, m.ptr), (3, .pointer (some ⟨b3, 0, none⟩)), (4, .pointer (some ⟨b4, 0, none⟩)), (5, .pointer (some ⟨b5, 0, none⟩)), (6, wkP b), (36, .slice ap ps.length capp), (37, .int .i64 (ps.length : Int)), (38, .int .i64 (x.1 : Int))])
      (fun x => erB b5 0 :: (b4, .cells (spC sp0 none 0 0) 84) :: (b3, .cells (spC s a n cap) 84) :: wkB b m dst x.2.2.2.1.1 x.2.2.2.1.2.1 x.2.2.2.1.2.2 :: (memH m x.2.1 ++ (Hg ++ x.2.2.2.2)))
      (fun x => x.1 ≤ ps.length ∧ WfM x.2.1 ∧ UOk Hs b m dst x.2.2.2.1.1 x.2.2.2.1.2.1 x.2.2.2.1.2.2 x.2.2.1 x.2.2.2.2 ∧ x.2.2.1.length ≤ x.1 + 1 ∧ forkGo M1 s.root dst [none] ps = forkGo x.2.1 s.root dst x.2.2.1 (ps.drop x.1))
      (fun x => ps.length - x.1) (0, M1, [none], (au, nu, cu), T) ⟨Nat.zero_le _, hw1, hu, Nat.le_refl _, rfl⟩ sublA subT ?_
    rintro ⟨k, Mk, us, ⟨a', n', cap'⟩, T'⟩ ⟨hk, hwf, hu', hlen, hgo⟩
    simp only at hk hwf hu' hlen hgo ⊢
    have hn' : n' ≤ 1000 := by rw [hu'.len]; omega
    simp only [List.cons_append, List.nil_append]
    by_cases hlk : k < ps.length
    · obtain ⟨p, hp⟩ : ∃ p, ps[k]? = some p := ⟨ps[k], by simp [hlk]⟩
      have hp256 := hpt p (List.mem_of_getElem? hp)
      have hdr : ps.drop k = p :: ps.drop (k + 1) := List.drop_eq_getElem?_toList_append.trans (by rw [hp]; rfl)
      rcases howp.inv with ⟨_, h, _⟩ | ⟨g, ys, rfl, rfl, h1, h2, h3, h4⟩
      · omega
      have hc := idv_get (ys := ys) hp
      simp only [List.cons_append, List.nil_append]
      repeat (first | refine stepA ?_ | intro _)
      refine callA ?_; refine ⟨_, _, ptwalk_spec m hwf s.root p hp256, _, cutA, ?_⟩
      rintro v H' ⟨rfl, rfl⟩
      simp only [List.cons_append, List.nil_append]
      repeat (first | refine stepA ?_ | intro _)
      (first | (apply L_P; (· exact rfl); (· exact rfl)) | (apply QL_P; (· exact rfl))); (· (apply P_and; (· exact evA); (· exact evA); (· exact rfl)))
      have hw2 := forkStep_wf hwf s.root dst us p
      have hl2 := forkStep_len Mk s.root dst us p
      by_cases hb : bits .and .i64 ((walkM Mk s.root p).2.1 : Int) 4 = 0
      · have hst : forkStep Mk s.root dst us p = filledM Mk dst us p (walkM Mk s.root p).2.1 (readM Mk (walkM Mk s.root p).1 0 64).1 := by rw [forkStep, if_pos hb]
        repeat (first | refine stepA ?_ | intro _)
        refine callA ?_; refine ⟨_, _, read_spec m hwf ((walkM Mk s.root p).1 : Int) 0 64, _, cutA, ?_⟩
        rintro v H' ⟨rfl, rfl⟩
        simp only [List.cons_append, List.nil_append]
        repeat (first | refine stepA ?_ | intro _)
        refine callT ?_; refine ⟨_, _, filled_sp m hwf b dst hu' hn' p (walkM Mk s.root p).2.1 hp256 (readM Mk (walkM Mk s.root p).1 0 64).1, _, cutT, ?_⟩
        rintro v H' ⟨a2, n2, c2, T2, rfl, hu2, rfl⟩
        rw [← hst] at hu2 ⊢
        simp only [List.cons_append, List.nil_append]
        by_cases hr : (forkStep Mk s.root dst us p).1 = 0
        · rw [hr]
          repeat (first | refine stepA ?_ | intro _)
          have hg2 : forkGo Mk s.root dst us (ps.drop k) = forkGo (forkStep Mk s.root dst us p).2.1 s.root dst (forkStep Mk s.root dst us p).2.2 (ps.drop (k + 1)) := by
            rw [hdr, forkGo]
            simp only [hr, if_true]
          exact ⟨rfl, (k + 1, _, _, (a2, n2, c2), T2), ⟨hlk, hw2, hu2, Nat.le_trans hl2 (Nat.add_le_add_right hlen 1), hgo.trans hg2⟩, by simp only; omega, sublA, subT⟩
        · have hg2 : forkGo M1 s.root dst [none] ps = forkStep Mk s.root dst us p := by
            rw [hgo, hdr, forkGo]
            simp only [hr, if_false]
          rw [hg2, if_neg hr]
          repeat (first | refine stepA ?_ | intro _)
          refine W_any [erB b5 (forkStep Mk s.root dst us p).1] [3] rfl ?_
          refine AS_at 0 (by decide +kernel) ?_; refine takeA ?_
          refine AS_at 1 (by decide +kernel) ?_; refine takeA ?_
          refine AS_one 2 rfl (by decide +kernel) rfl ?_
          refine stepA ?_
          refine L_nil ?_; refine ⟨rfl, (by first | exact KeepsH.brk (by decide +kernel) | exact KeepsH.sub subA | exact KeepsH.sub subT), ?_⟩
          refine AS_one 3 rfl (by decide +kernel) rfl ?_
          refine stepA ?_
          refine L_nil ?_; refine ⟨rfl, (by first | exact KeepsH.brk (by decide +kernel) | exact KeepsH.sub subA | exact KeepsH.sub subT), ?_⟩
          refine AS_done (by decide +kernel) ?_
          repeat (first | refine stepA ?_ | intro _)
          have hn2 : n2 ≤ 1000 := by rw [hu2.len]; omega
          refine retEA (lvCallA ?_)
          refine ⟨_, _, ends_sp m hw2 b b5 (forkStep Mk s.root dst us p).1 dst hu2 hn2, _, cutT, ?_⟩
          rintro v H' rfl
          refine ⟨_, List.perm_append_comm, ?_⟩
          simp only [List.cons_append, List.nil_append]
          have he : endsM (forkStep Mk s.root dst us p).1 (forkStep Mk s.root dst us p).2.1 dst (forkStep Mk s.root dst us p).2.2 = undoAll (forkStep Mk s.root dst us p).2.1 dst (forkStep Mk s.root dst us p).2.2 := by rw [endsM, if_neg hr]
          rw [he]
          refine lvNil ?_
          exact ⟨_, .inl ⟨hr, rfl, rfl⟩, subT⟩
      · have hst : forkStep Mk s.root dst us p = sharedM Mk dst us p (walkM Mk s.root p).1 (walkM Mk s.root p).2.1 := by rw [forkStep, if_neg hb]
        repeat (first | refine stepA ?_ | intro _)
        refine callT ?_; refine ⟨_, _, shared_sp m hwf b dst hu' hn' p (walkM Mk s.root p).1 (walkM Mk s.root p).2.1 hp256, _, cutT, ?_⟩
        rintro v H' ⟨a2, n2, c2, T2, rfl, hu2, rfl⟩
        rw [← hst] at hu2 ⊢
        simp only [List.cons_append, List.nil_append]
        by_cases hr : (forkStep Mk s.root dst us p).1 = 0
        · rw [hr]
          repeat (first | refine stepA ?_ | intro _)
          have hg2 : forkGo Mk s.root dst us (ps.drop k) = forkGo (forkStep Mk s.root dst us p).2.1 s.root dst (forkStep Mk s.root dst us p).2.2 (ps.drop (k + 1)) := by
            rw [hdr, forkGo]
            simp only [hr, if_true]
          exact ⟨rfl, (k + 1, _, _, (a2, n2, c2), T2), ⟨hlk, hw2, hu2, Nat.le_trans hl2 (Nat.add_le_add_right hlen 1), hgo.trans hg2⟩, by simp only; omega, sublA, subT⟩
        · have hg2 : forkGo M1 s.root dst [none] ps = forkStep Mk s.root dst us p := by
            rw [hgo, hdr, forkGo]
            simp only [hr, if_false]
          rw [hg2, if_neg hr]
          repeat (first | refine stepA ?_ | intro _)
          refine W_any [erB b5 (forkStep Mk s.root dst us p).1] [3] rfl ?_
          refine AS_at 0 (by decide +kernel) ?_; refine takeA ?_
          refine AS_at 1 (by decide +kernel) ?_; refine takeA ?_
          refine AS_one 2 rfl (by decide +kernel) rfl ?_
          refine stepA ?_
          refine L_nil ?_; refine ⟨rfl, (by first | exact KeepsH.brk (by decide +kernel) | exact KeepsH.sub subA | exact KeepsH.sub subT), ?_⟩
          refine AS_one 3 rfl (by decide +kernel) rfl ?_
          refine stepA ?_
          refine L_nil ?_; refine ⟨rfl, (by first | exact KeepsH.brk (by decide +kernel) | exact KeepsH.sub subA | exact KeepsH.sub subT), ?_⟩
          refine AS_done (by decide +kernel) ?_
          repeat (first | refine stepA ?_ | intro _)
          have hn2 : n2 ≤ 1000 := by rw [hu2.len]; omega
          refine retEA (lvCallA ?_)
          refine ⟨_, _, ends_sp m hw2 b b5 (forkStep Mk s.root dst us p).1 dst hu2 hn2, _, cutT, ?_⟩
          rintro v H' rfl
          refine ⟨_, List.perm_append_comm, ?_⟩
          simp only [List.cons_append, List.nil_append]
          have he : endsM (forkStep Mk s.root dst us p).1 (forkStep Mk s.root dst us p).2.1 dst (forkStep Mk s.root dst us p).2.2 = undoAll (forkStep Mk s.root dst us p).2.1 dst (forkStep Mk s.root dst us p).2.2 := by rw [endsM, if_neg hr]
          rw [he]
          refine lvNil ?_
          exact ⟨_, .inl ⟨hr, rfl, rfl⟩, subT⟩
    · obtain rfl : k = ps.length := by omega
      have hg2 : forkGo M1 s.root dst [none] ps = (0, Mk, us) := hgo.trans (by rw [List.drop_length]; rfl)
      rw [hg2]
      simp only [if_true]
      obtain ⟨X, hX⟩ := hu'.perm
      refine W_tailS (T' := T') (Sub.ofPermR (R := Hg) List.perm_append_comm) ?_
      simp only [List.cons_append, List.nil_append]
      repeat (first | refine stepA ?_ | intro _)
      refine callT ?_; refine ⟨_, _, own_in { s with root := dst } how hn hX, _, cutT, ?_⟩
      rintro v H' ⟨a2, cap2, Hs2, rfl, how2, rfl⟩
      refine L_perm (H' := erB b5 0 :: (b4, .cells (spC sp0 none 0 0) 84) :: (b3, .cells (spC { s with root := dst } a n cap) 84) :: wkB b m dst a' n' cap' :: (memH m Mk ++ (T' ++ Hs2))) (by simp only [List.cons_append, List.nil_append, erB, spC, sp0]; exact permA) ?_
      simp only [List.cons_append, List.nil_append]
      repeat (first | refine stepA ?_ | intro _)
      refine retEA (lvCallA ?_)
      refine ⟨_, _, ends_sp m hwf b b5 0 dst (hu'.more Hs2) hn', _, cutT, ?_⟩
      rintro v H' rfl
      refine ⟨_, List.perm_append_comm, ?_⟩
      simp only [List.cons_append, List.nil_append]
      have he : endsM 0 Mk dst us = Mk := by rw [endsM, if_pos rfl]
      rw [he]
      refine lvNil ?_
      exact ⟨_, .inr ⟨trivial, a2, cap2, Hs2, rfl, how2, rfl⟩, subT⟩
end
end Go.Proofs.YtcpfmjlceoiofaaGreatDoor

/-
  The walk's own small calculus, twenty-third part: a slice of two structs of two cells that is written out.
-/
namespace Go.Proofs.YtcpfmjlceoiofaaGreatDoor
open Go.RowKit
section rules
variable {X : Cx} {Q : PostT} {l : St} {ds : List Deferred} {H : Hp} {ops : Array Oper} {rest : List Oper}
variable {d ty : Nat} {pos : String} {after : Array Edge}
theorem L_buildSlTwo {x y : Operand} {t e : Nat} {z0 z1 a0 a1 b0 b1 : Value} [T : TySl X.P t e 2] [Z : TyZ X.P e [z0, z1]] (hlt : Nat.blt d X.n = true) (hx : ev l x = some (.agg [a0, a1].toArray)) (hy : ev l y = some (.agg [b0, b1].toArray))
    (h : ∀ b, L X ops rest Q ((d, .slice (some ⟨b, 0, none⟩) 2 2) :: l) ds ((b, .cells [a0, a1, b0, b1] e) :: H)) :
    L X ops ({ dst := some d, op := .buildSlice t 2 #[(0, x), (1, y)], type := ty, pos, after, guard := none } :: rest) Q l ds H :=
  L_val rfl rfl hlt (fun _ e => by cases e) fun ρ hρ w hw => by
    obtain ⟨u, hz1, hz2⟩ : ∃ u, (zeroValue e).run X.P w = .ok u w ∧ u.cells = [z0, z1].toArray := by
      have hz := Z.zero
      cases hq : X.P.info? e with
      | none => simp [hq] at hz
      | some i =>
        cases hi : i.zero with
        | none => simp [hq, hi] at hz
        | some u => simp [hq, hi] at hz; exact ⟨u, by simp [zeroValue, typeInfo, hq, hi], hz⟩
    have ez : ((Array.range (2 * 2)).map ([z0, z1].toArray[· % [z0, z1].toArray.size]!)) = [z0, z1, z0, z1].toArray := by
      apply Array.ext'
      rw [Array.toList_map, Array.toList_range, show List.range (2 * 2) = [0, 1, 2, 3] from rfl]
      simp
    have hfill : Instr.fill (fun i => some (i * 2, 2)) [z0, z1, z0, z1].toArray [(0, .agg [a0, a1].toArray), (1, .agg [b0, b1].toArray)] = some [a0, a1, b0, b1].toArray := by
      have e1 : Instr.fill (fun i => some (i * 2, 2)) [z0, z1, z0, z1].toArray [(0, .agg [a0, a1].toArray), (1, .agg [b0, b1].toArray)] = Instr.fill (#[(0, 2), (2, 2)][·]?) [z0, z1, z0, z1].toArray [(0, .agg [a0, a1].toArray), (1, .agg [b0, b1].toArray)] := by
        simp [Instr.fill]
      rw [e1, fill_L [(0, 2), (2, 2)] _ _ rfl]
      rfl
    refine ⟨_, _, _, ?_, hw.alloc (.cells [a0, a1, b0, b1] e), h _⟩
    have hm : (#[((0 : Nat), x), (1, y)].map fun (p : Nat × Operand) => (p.1, ρ p.2)).toList = [(0, .agg [a0, a1].toArray), (1, .agg [b0, b1].toArray)] := by simp [hρ x _ hx, hρ y _ hy]
    simp only [execOp, Instr.buildSlice, Sem.run_bind, run_underlying T.und w, Result.andThen_ok, T.runSize w]
    have a1 : ¬ (2 * 2 > 2 ^ 24) := by omega
    have a2 : ¬ (2 * 2 = 0) := by omega
    simp only [a1, a2, if_false, Sem.run_bind, Sem.run_pure, Result.andThen_ok, hz1, hz2, ez, hm, hfill, newRow, run_newObj_alloc, Blk.obj]
end rules
end Go.Proofs.YtcpfmjlceoiofaaGreatDoor

/-
  Calls: within, areShort, Right; the document's answer: short, Right.
-/
namespace Go.Proofs.YtcpfmjlceoiofaaGreatDoor
open Go.RowKit
attribute [local irreducible] W L QL PureOp thenQ blockQ retQ Spec IterOk YSpec roundQ scopeQ noGoQ
attribute [local irreducible] AS ASi
set_option maxHeartbeats 1600000
abbrev elI (v : Int) : Value := .int .i64 v
structure CallV where
  no : Int
  f : Int
  a : Int
  b : Int
  c : Int
  d : Int
  s : List UInt8
abbrev CallV.cells (x : CallV) : List Value := [.int .i64 x.no, .int .i64 x.f, .int .i64 x.a, .int .i64 x.b, .int .i64 x.c, .int .i64 x.d, str x.s]
abbrev Sh (n : Int) : Prop := -32768 ≤ n ∧ n ≤ 32767
structure RightP (x : CallV) : Prop where
  no : 1 ≤ x.no ∧ x.no ≤ 25
  f : 0 ≤ x.f ∧ x.f ≤ 255
  a : Sh x.a
  b : Sh x.b
  c : Sh x.c
  d : Sh x.d
  s : x.s.length ≤ 600
theorem rightP_iff (x : CallV) : RightP x ↔ (1 ≤ x.no ∧ x.no ≤ 25) ∧ (0 ≤ x.f ∧ x.f ≤ 255) ∧ Sh x.a ∧ Sh x.b ∧ Sh x.c ∧ Sh x.d ∧ x.s.length ≤ 600 :=
  ⟨fun h => ⟨h.no, h.f, h.a, h.b, h.c, h.d, h.s⟩, fun ⟨h1, h2, h3, h4, h5, h6, h7⟩ => ⟨h1, h2, h3, h4, h5, h6, h7⟩⟩
instance (x : CallV) : Decidable (RightP x) := decidable_of_iff _ (rightP_iff x).symm
theorem withinT (least most : Int) (g n : Nat) (E : TypeId) (xs : List Int) (hl : xs.length = n) (hn : n ≤ 1000) (hall : ∀ (k : Nat) (x : Int), xs[k]? = some x → least ≤ x ∧ x ≤ most) :
    Spec Tryz.prog 44 [.int .i64 least, .int .i64 most, .slice (some ⟨g, 0, none⟩) n n] [(g, .cells (xs.map elI) E)] fun v H' => v = .bool true ∧ H' = [(g, .cells (xs.map elI) E)] := by
  refine Spec_body Tryz.func44 rfl Tryz.ntmps44 rfl (fun w0 => ?_)
  repeat (first | refine stepA ?_ | intro _)
  refine W_loop (fun k : Nat => [(0, .int .i64 least), (1, .int .i64 most), (9, .slice (some ⟨g, 0, none⟩) n n), (10, .int .i64 (n : Int)), (11, .int .i64 (k : Int))]) (fun _ => [(g, .cells (xs.map elI) E)]) (fun k => k ≤ n) (fun k => n - k) 0 (by omega) sublA subA ?_
  intro k hk
  by_cases hlt : k < n
  · obtain ⟨x, hx⟩ : ∃ x, xs[k]? = some x := ⟨xs[k]'(by omega), by simp [hl, hlt]⟩
    have e1 : (xs.map elI)[k]? = some (.int .i64 x) := by simp [hx]
    have hb := hall k x hx
    repeat (first | refine stepA ?_ | intro _)
    exact ⟨rfl, k + 1, by omega, by omega, sublA, subA⟩
  · obtain rfl : k = n := by omega
    repeat (first | refine stepA ?_ | intro _)
    (first | refine retA ?_ | refine retB ?_); exact ⟨_, ⟨rfl, rfl⟩, subA⟩
theorem withinF (least most : Int) (g n : Nat) (E : TypeId) (xs : List Int) (hl : xs.length = n) (hn : n ≤ 1000) (hex : ∃ (k : Nat) (x : Int), xs[k]? = some x ∧ ¬ (least ≤ x ∧ x ≤ most)) :
    Spec Tryz.prog 44 [.int .i64 least, .int .i64 most, .slice (some ⟨g, 0, none⟩) n n] [(g, .cells (xs.map elI) E)] fun v H' => v = .bool false ∧ H' = [(g, .cells (xs.map elI) E)] := by
  obtain ⟨k0, x0, hx0, hbad⟩ := hex
  have hk0 : k0 < n := by have := (List.getElem?_eq_some_iff.1 hx0).1; omega
  refine Spec_body Tryz.func44 rfl Tryz.ntmps44 rfl (fun w0 => ?_)
  repeat (first | refine stepA ?_ | intro _)
  refine W_loop (fun k : Nat => [(0, .int .i64 least), (1, .int .i64 most), (9, .slice (some ⟨g, 0, none⟩) n n), (10, .int .i64 (n : Int)), (11, .int .i64 (k : Int))]) (fun _ => [(g, .cells (xs.map elI) E)]) (fun k => k ≤ k0) (fun k => n - k) 0 (by omega) sublA subA ?_
  intro k hk
  obtain ⟨x, hx⟩ : ∃ x, xs[k]? = some x := ⟨xs[k]'(by omega), List.getElem?_eq_getElem (by omega)⟩
  have e1 : (xs.map elI)[k]? = some (.int .i64 x) := by simp [hx]
  by_cases h1 : x < least
  · repeat (first | refine stepA ?_ | intro _)
    (first | refine retA ?_ | refine retB ?_); exact ⟨_, ⟨rfl, rfl⟩, subA⟩
  by_cases h2 : x > most
  · repeat (first | refine stepA ?_ | intro _)
    (first | refine retA ?_ | refine retB ?_); exact ⟨_, ⟨rfl, rfl⟩, subA⟩
  have hne : k ≠ k0 := fun e => by
    subst e
    rw [hx0] at hx
    cases hx
    omega
  repeat (first | refine stepA ?_ | intro _)
  exact ⟨rfl, k + 1, by omega, by omega, sublA, subA⟩
theorem within1T (least most x : Int) (g : Nat) (E : TypeId) (h : least ≤ x ∧ x ≤ most) :
    Spec Tryz.prog 44 [.int .i64 least, .int .i64 most, .slice (some ⟨g, 0, none⟩) 1 1] [(g, .cells [.int .i64 x] E)] fun v H' => v = .bool true ∧ H' = [(g, .cells [.int .i64 x] E)] :=
  withinT least most g 1 E [x] rfl (by omega) (fun k y hk => by cases k <;> simp at hk; subst hk; exact h)
theorem within1F (least most x : Int) (g : Nat) (E : TypeId) (h : ¬ (least ≤ x ∧ x ≤ most)) :
    Spec Tryz.prog 44 [.int .i64 least, .int .i64 most, .slice (some ⟨g, 0, none⟩) 1 1] [(g, .cells [.int .i64 x] E)] fun v H' => v = .bool false ∧ H' = [(g, .cells [.int .i64 x] E)] :=
  withinF least most g 1 E [x] rfl (by omega) ⟨0, x, rfl, h⟩
theorem areShortT (g n : Nat) (E : TypeId) (xs : List Int) (hl : xs.length = n) (hn : n ≤ 1000) (hall : ∀ (k : Nat) (x : Int), xs[k]? = some x → Sh x) :
    Spec Tryz.prog 45 [.slice (some ⟨g, 0, none⟩) n n] [(g, .cells (xs.map elI) E)] fun v H' => v = .bool true ∧ H' = [(g, .cells (xs.map elI) E)] := by
  refine Spec_body Tryz.func45 rfl Tryz.ntmps45 rfl (fun w0 => ?_)
  repeat (first | refine stepA ?_ | intro _)
  refine callA ?_; refine ⟨_, _, withinT (-32768) 32767 g n E xs hl hn hall, _, cutA, ?_⟩
  rintro v H' ⟨rfl, rfl⟩
  repeat (first | refine stepA ?_ | intro _)
  (first | refine retA ?_ | refine retB ?_); exact ⟨_, ⟨rfl, rfl⟩, subA⟩
theorem areShortF (g n : Nat) (E : TypeId) (xs : List Int) (hl : xs.length = n) (hn : n ≤ 1000) (hex : ∃ (k : Nat) (x : Int), xs[k]? = some x ∧ ¬ Sh x) :
    Spec Tryz.prog 45 [.slice (some ⟨g, 0, none⟩) n n] [(g, .cells (xs.map elI) E)] fun v H' => v = .bool false ∧ H' = [(g, .cells (xs.map elI) E)] := by
  refine Spec_body Tryz.func45 rfl Tryz.ntmps45 rfl (fun w0 => ?_)
  repeat (first | refine stepA ?_ | intro _)
  refine callA ?_; refine ⟨_, _, withinF (-32768) 32767 g n E xs hl hn hex, _, cutA, ?_⟩
  rintro v H' ⟨rfl, rfl⟩
  repeat (first | refine stepA ?_ | intro _)
  (first | refine retA ?_ | refine retB ?_); exact ⟨_, ⟨rfl, rfl⟩, subA⟩
theorem areShort4T (g : Nat) (E : TypeId) (a b c d : Int) (h : Sh a ∧ Sh b ∧ Sh c ∧ Sh d) :
    Spec Tryz.prog 45 [.slice (some ⟨g, 0, none⟩) 4 4] [(g, .cells [.int .i64 a, .int .i64 b, .int .i64 c, .int .i64 d] E)] fun v H' => v = .bool true ∧ H' = [(g, .cells [.int .i64 a, .int .i64 b, .int .i64 c, .int .i64 d] E)] :=
  areShortT g 4 E [a, b, c, d] rfl (by omega) (fun k y hk => by
    match k, hk with
    | 0, hk => simp at hk; subst hk; exact h.1
    | 1, hk => simp at hk; subst hk; exact h.2.1
    | 2, hk => simp at hk; subst hk; exact h.2.2.1
    | 3, hk => simp at hk; subst hk; exact h.2.2.2
    | k + 4, hk => simp at hk)
theorem areShort4F (g : Nat) (E : TypeId) (a b c d : Int) (h : ¬ (Sh a ∧ Sh b ∧ Sh c ∧ Sh d)) :
    Spec Tryz.prog 45 [.slice (some ⟨g, 0, none⟩) 4 4] [(g, .cells [.int .i64 a, .int .i64 b, .int .i64 c, .int .i64 d] E)] fun v H' => v = .bool false ∧ H' = [(g, .cells [.int .i64 a, .int .i64 b, .int .i64 c, .int .i64 d] E)] :=
  areShortF g 4 E [a, b, c, d] rfl (by omega) (by
    by_cases ha : Sh a
    · by_cases hb : Sh b
      · by_cases hc : Sh c
        · exact ⟨3, d, rfl, fun hd => h ⟨ha, hb, hc, hd⟩⟩
        · exact ⟨2, c, rfl, hc⟩
      · exact ⟨1, b, rfl, hb⟩
    · exact ⟨0, a, rfl, ha⟩)
theorem right_spec (x : CallV) : Spec Tryz.prog 22 [.agg x.cells.toArray] [] fun v H' => v = .bool (decide (RightP x)) ∧ H' = [] := by
  refine Spec_body Tryz.func22 rfl Tryz.ntmps22 rfl (fun w0 => ?_)
  by_cases h1 : 1 ≤ x.no ∧ x.no ≤ 25
  · by_cases h2 : 0 ≤ x.f ∧ x.f ≤ 255
    · by_cases h3 : Sh x.a ∧ Sh x.b ∧ Sh x.c ∧ Sh x.d
      · repeat (first | refine stepA ?_ | intro _)
        rename_i g1
        refine callA ?_; refine ⟨_, _, within1T 1 25 x.no g1 _ h1, _, cutA, ?_⟩
        rintro v H' ⟨rfl, rfl⟩
        repeat (first | refine stepA ?_ | intro _)
        rename_i g2
        refine callA ?_; refine ⟨_, _, within1T 0 255 x.f g2 _ h2, _, cutA, ?_⟩
        rintro v H' ⟨rfl, rfl⟩
        repeat (first | refine stepA ?_ | intro _)
        rename_i g3
        refine callA ?_; refine ⟨_, _, areShort4T g3 _ x.a x.b x.c x.d h3, _, cutA, ?_⟩
        rintro v H' ⟨rfl, rfl⟩
        repeat (first | refine stepA ?_ | intro _)
        (first | refine retA ?_ | refine retB ?_); exact ⟨_, ⟨by simp only [resVal, Bool.and_true, Bool.true_and]; congr 1; rw [Bool.eq_iff_iff]; simp only [decide_eq_true_eq, rightP_iff]; omega, rfl⟩, subA⟩
      · repeat (first | refine stepA ?_ | intro _)
        rename_i g1
        refine callA ?_; refine ⟨_, _, within1T 1 25 x.no g1 _ h1, _, cutA, ?_⟩
        rintro v H' ⟨rfl, rfl⟩
        repeat (first | refine stepA ?_ | intro _)
        rename_i g2
        refine callA ?_; refine ⟨_, _, within1T 0 255 x.f g2 _ h2, _, cutA, ?_⟩
        rintro v H' ⟨rfl, rfl⟩
        repeat (first | refine stepA ?_ | intro _)
        rename_i g3
        refine callA ?_; refine ⟨_, _, areShort4F g3 _ x.a x.b x.c x.d h3, _, cutA, ?_⟩
        rintro v H' ⟨rfl, rfl⟩
        repeat (first | refine stepA ?_ | intro _)
        (first | refine retA ?_ | refine retB ?_); exact ⟨_, ⟨by rw [decide_eq_false (fun h : RightP x => h3 ⟨h.a, h.b, h.c, h.d⟩)]; rfl, rfl⟩, subA⟩
    · repeat (first | refine stepA ?_ | intro _)
      rename_i g1
      refine callA ?_; refine ⟨_, _, within1T 1 25 x.no g1 _ h1, _, cutA, ?_⟩
      rintro v H' ⟨rfl, rfl⟩
      repeat (first | refine stepA ?_ | intro _)
      rename_i g2
      refine callA ?_; refine ⟨_, _, within1F 0 255 x.f g2 _ h2, _, cutA, ?_⟩
      rintro v H' ⟨rfl, rfl⟩
      repeat (first | refine stepA ?_ | intro _)
      (first | refine retA ?_ | refine retB ?_); exact ⟨_, ⟨by rw [decide_eq_false (fun h : RightP x => h2 h.f)]; rfl, rfl⟩, subA⟩
  · repeat (first | refine stepA ?_ | intro _)
    rename_i g1
    refine callA ?_; refine ⟨_, _, within1F 1 25 x.no g1 _ h1, _, cutA, ?_⟩
    rintro v H' ⟨rfl, rfl⟩
    repeat (first | refine stepA ?_ | intro _)
    (first | refine retA ?_ | refine retB ?_); exact ⟨_, ⟨by rw [decide_eq_false (fun h : RightP x => h1 h.no)]; rfl, rfl⟩, subA⟩
end Go.Proofs.YtcpfmjlceoiofaaGreatDoor

/-
  Spaces: Grow.
-/
namespace Go.Proofs.YtcpfmjlceoiofaaGreatDoor
open Go.RowKit
attribute [local irreducible] W L QL PureOp thenQ blockQ retQ Spec IterOk YSpec roundQ scopeQ noGoQ
attribute [local irreducible] AS ASi IterOkC retD retE roundY
set_option maxHeartbeats 12800000
set_option maxRecDepth 4000
/-- fresh pages, one behind the other -/
def growGo (M : List Frm) (root : Int) (us : List (Option Nat)) (p : Nat) : Nat → Int × List Frm × List (Option Nat)
  | 0 => (0, M, us)
  | k + 1 => let r := freshM M root us p 3; if r.2.1 = 0 then growGo r.2.2.1 root r.2.2.2 (p + 1) k else r.2
/-- pages are given back, from the last one on -/
def shrinkGo (M : List Frm) (root : Int) (p : Nat) : Nat → List Frm
  | 0 => M
  | k + 1 => shrinkGo (unmapsM M root (p - 1)) root (p - 1) k
/-- a heap grows: the error, the memory -/
def growM (M : List Frm) (root : Int) (en heap : Nat) (pages : Int) : Int × List Frm :=
  if pages < -(heap : Int) ∨ pages > 128 - (en : Int) then (2, M) else
  let r := growGo M root [] en pages.toNat
  if r.1 = 0 then (0, shrinkGo r.2.1 root en (-pages).toNat) else (r.1, undoAll r.2.1 root r.2.2)
theorem shrinkGo_wf : ∀ (k : Nat) {M : List Frm} (_ : WfM M) (root : Int) (p : Nat), WfM (shrinkGo M root p k)
  | 0, _, h, _, _ => h
  | k + 1, _, h, root, p => shrinkGo_wf k (unmapsM_wf h root (p - 1)) root (p - 1)
section
variable (m : MemP) {M : List Frm}
theorem grow_sp (hM : WfM M) (root : Int) (text data heap : Nat) (atts : List At) (hsum : text + data + heap ≤ 128) (pages : Int) (hp : -9223372036854775808 ≤ pages ∧ pages ≤ 9223372036854775807) {a : Option Addr} {n cap : Nat} {Hs : Hp} (how : oA a n cap (atC atts) Hs) (hn : n ≤ 1000) :
    Spec Tryz.prog 119 [m.ptr, .agg [.int .i64 root, .int .i64 (text : Int), .int .i64 (data : Int), .int .i64 (heap : Int), .slice a n cap].toArray, .int .i64 pages] (memH m M ++ Hs) fun v H' =>
      ((growM M root (text + data + heap) heap pages).1 ≠ 0 ∧ v = .tuple #[spV sp0 none 0 0, .int .i64 0, .int .i64 (growM M root (text + data + heap) heap pages).1] ∧ H' = memH m (growM M root (text + data + heap) heap pages).2 ++ Hs) ∨
      ((growM M root (text + data + heap) heap pages).1 = 0 ∧ ∃ a2 cap2 Hs2, v = .tuple #[spV ⟨root, text, data, (heap : Int) + pages, atts⟩ a2 n cap2, .int .i64 (64 * ((text + data + heap : Nat) : Int)), .int .i64 0] ∧ oA a2 n cap2 (atC atts) Hs2 ∧ H' = memH m (growM M root (text + data + heap) heap pages).2 ++ (Hs ++ Hs2)) := by
  obtain ⟨en, hen⟩ : ∃ en, en = text + data + heap := ⟨_, rfl⟩
  have ee : (text : Int) + (data : Int) + (heap : Int) = ((en : Nat) : Int) := by omega
  rw [← hen]
  refine Spec_bodyE Tryz.func119 rfl Tryz.ntmps119 rfl (fun w0 => ?_)
  simp only [List.cons_append, List.nil_append]
  have e0 : (0 : Int) - (heap : Int) = -(heap : Int) := by omega
  by_cases h1 : pages < -(heap : Int)
  · have e : growM M root en heap pages = (2, M) := by rw [growM, if_pos (.inl h1)]
    rw [e]
    repeat (first | refine stepA ?_ | intro _)
    rw [wrap_i64 (z := 0 - (heap : Int)) (by omega), e0, decide_eq_true h1]
    repeat (first | refine stepA ?_ | intro _)
    refine retEA (lvNil ?_)
    exact ⟨_, .inl ⟨by simp, rfl, rfl⟩, subT⟩
  by_cases h2 : pages > 128 - (en : Int)
  · have e : growM M root en heap pages = (2, M) := by rw [growM, if_pos (.inr h2)]
    rw [e]
    repeat (first | refine stepA ?_ | intro _)
    rw [wrap_i64 (z := 0 - (heap : Int)) (by omega), e0, decide_eq_false h1]
    repeat (first | refine stepA ?_ | intro _)
    refine retEA (lvNil ?_)
    exact ⟨_, .inl ⟨by simp, rfl, rfl⟩, subT⟩
  repeat (first | refine stepA ?_ | intro _)
  rename_i b4 b6 b8
  rw [wrap_i64 (z := 0 - (heap : Int)) (by omega), e0, decide_eq_false h1]
  repeat (first | refine stepA ?_ | intro _)
  refine callA ?_; refine ⟨_, _, of_sp m ⟨root, text, data, heap, atts⟩ a n cap, _, cutA, ?_⟩
  rintro v H' ⟨b, rfl, rfl⟩
  simp only [List.cons_append, List.nil_append]
  repeat (first | refine stepA ?_ | intro _)
  apply L_deferA
  · exact rfl
  · exact evA
  · exact rfl
  repeat (first | refine stepA ?_ | intro _)
  rw [ee]
  obtain ⟨np, hnp⟩ : ∃ np, np = pages.toNat := ⟨_, rfl⟩
  refine W_loop (fun x : Nat × List Frm × List (Option Nat) × (Option Addr × Nat × Nat) × Hp => [(0, m.ptr), (2, .int .i64 pages), (4, .pointer (some ⟨b4, 0, none⟩)), (6, .pointer (some ⟨b6, 0, none⟩)), (7, .int .i64 0), (8, .pointer (some ⟨b8, 0, none⟩)), (9, .int .i64 (en : Int)), (10, wkP b), (40, .int .i64 pages), (41, .int .i64 (x.1 : Int))])
    (fun x => erB b8 0 :: (b6, .cells (spC sp0 none 0 0) 84) :: (b4, .cells [.int .i64 root, .int .i64 (text : Int), .int .i64 (data : Int), .int .i64 (heap : Int), .slice a n cap] 84) :: wkB b m root x.2.2.2.1.1 x.2.2.2.1.2.1 x.2.2.2.1.2.2 :: (memH m x.2.1 ++ x.2.2.2.2))
    (fun x => x.1 ≤ np ∧ WfM x.2.1 ∧ UOk Hs b m root x.2.2.2.1.1 x.2.2.2.1.2.1 x.2.2.2.1.2.2 x.2.2.1 x.2.2.2.2 ∧ x.2.2.1.length ≤ x.1 ∧ growGo M root [] en np = growGo x.2.1 root x.2.2.1 (en + x.1) (np - x.1))
    (fun x => np - x.1) (0, M, [], (none, 0, 0), Hs) ⟨Nat.zero_le _, hM, UOk.none m b root Hs, Nat.le_refl _, rfl⟩ sublA subT ?_
  rintro ⟨k, Mk, us, ⟨a', n', cap'⟩, T'⟩ ⟨hk, hwf, hu', hlen, hgo⟩
  simp only at hk hwf hu' hlen hgo ⊢
  have hn' : n' ≤ 1000 := by rw [hu'.len]; omega
  simp only [List.cons_append, List.nil_append]
  by_cases hlk : k < np
  · have hp256 : en + k < 256 := by omega
    have hd1 : np - k = (np - (k + 1)) + 1 := by omega
    have hw2 := freshM_wf hwf root us (en + k) 3
    have hl2 := freshM_len Mk root us (en + k) 3
    obtain ⟨pe, hpe⟩ : ∃ pe : Int, pe = ((en + k : Nat) : Int) := ⟨_, rfl⟩
    have hpe2 : (en : Int) + (k : Int) = pe := by omega
    have hfr := fresh_sp m hwf b root hu' hn' (en + k) 3 hp256
    rw [← hpe] at hfr
    repeat (first | refine stepA ?_ | intro _)
    rw [hpe2]
    refine callT ?_; refine ⟨_, _, hfr, _, cutT, ?_⟩
    rintro v H' ⟨a2, n2, c2, T2, rfl, hu2, rfl⟩
    simp only [List.cons_append, List.nil_append]
    by_cases hr : (freshM Mk root us (en + k) 3).2.1 = 0
    · rw [hr]
      repeat (first | refine stepA ?_ | intro _)
      have hg2 : growGo Mk root us (en + k) (np - k) = growGo (freshM Mk root us (en + k) 3).2.2.1 root (freshM Mk root us (en + k) 3).2.2.2 (en + (k + 1)) (np - (k + 1)) := by
        rw [hd1, growGo]
        simp only [hr, if_true]
        rw [Nat.add_assoc]
      exact ⟨rfl, (k + 1, _, _, (a2, n2, c2), T2), ⟨hlk, hw2, hu2, Nat.le_trans hl2 (Nat.add_le_add_right hlen 1), hgo.trans hg2⟩, by simp only; omega, sublA, subT⟩
    · have hg2 : growGo M root [] en np = (freshM Mk root us (en + k) 3).2 := by
        rw [hgo, hd1, growGo]
        simp only [hr, if_false]
      have e : growM M root en heap pages = ((freshM Mk root us (en + k) 3).2.1, undoAll (freshM Mk root us (en + k) 3).2.2.1 root (freshM Mk root us (en + k) 3).2.2.2) := by
        rw [growM, if_neg (by omega)]
        simp only
        rw [← hnp, hg2, if_neg hr]
      rw [e]
      repeat (first | refine stepA ?_ | intro _)
      refine W_any [erB b8 (freshM Mk root us (en + k) 3).2.1] [4] rfl ?_
      refine AS_at 0 (by decide +kernel) ?_; refine takeA ?_
      refine AS_at 1 (by decide +kernel) ?_; refine takeA ?_
      refine AS_one 2 rfl (by decide +kernel) rfl ?_
      refine stepA ?_
      refine L_nil ?_; refine ⟨rfl, (by first | exact KeepsH.brk (by decide +kernel) | exact KeepsH.sub subA | exact KeepsH.sub subT), ?_⟩
      refine AS_at 3 (by decide +kernel) ?_; refine takeA ?_
      refine AS_one 4 rfl (by decide +kernel) rfl ?_
      refine stepA ?_
      refine L_nil ?_; refine ⟨rfl, (by first | exact KeepsH.brk (by decide +kernel) | exact KeepsH.sub subA | exact KeepsH.sub subT), ?_⟩
      refine AS_done (by decide +kernel) ?_
      repeat (first | refine stepA ?_ | intro _)
      have hn2 : n2 ≤ 1000 := by rw [hu2.len]; omega
      refine retEA (lvCallA ?_)
      refine ⟨_, _, ends_sp m hw2 b b8 (freshM Mk root us (en + k) 3).2.1 root hu2 hn2, _, cutT, ?_⟩
      rintro v H' rfl
      refine ⟨_, List.perm_append_comm, ?_⟩
      simp only [List.cons_append, List.nil_append]
      have he : endsM (freshM Mk root us (en + k) 3).2.1 (freshM Mk root us (en + k) 3).2.2.1 root (freshM Mk root us (en + k) 3).2.2.2 = undoAll (freshM Mk root us (en + k) 3).2.2.1 root (freshM Mk root us (en + k) 3).2.2.2 := by rw [endsM, if_neg hr]
      rw [he]
      refine lvNil ?_
      exact ⟨_, .inl ⟨hr, rfl, rfl⟩, subT⟩
  · obtain rfl : k = np := by omega
    have hg2 : growGo M root [] en k = (0, Mk, us) := hgo.trans (by rw [Nat.sub_self]; rfl)
    have e : growM M root en heap pages = (0, shrinkGo Mk root en (-pages).toNat) := by
      rw [growM, if_neg (by omega)]
      simp only
      rw [← hnp, hg2, if_pos rfl]
    rw [e]
    obtain ⟨X, hX⟩ := hu'.perm
    repeat (first | refine stepA ?_ | intro _)
    rw [wrap_i64 (z := 0 - pages) (by omega)]
    obtain ⟨nq, hnq⟩ : ∃ nq, nq = (-pages).toNat := ⟨_, rfl⟩
    rw [← hnq]
    refine W_loop (fun x : Nat × List Frm => [(0, m.ptr), (2, .int .i64 pages), (4, .pointer (some ⟨b4, 0, none⟩)), (6, .pointer (some ⟨b6, 0, none⟩)), (7, .int .i64 0), (8, .pointer (some ⟨b8, 0, none⟩)), (9, .int .i64 (en : Int)), (10, wkP b), (58, .int .i64 (0 - pages)), (59, .int .i64 (x.1 : Int))])
      (fun x => erB b8 0 :: (b6, .cells (spC sp0 none 0 0) 84) :: (b4, .cells [.int .i64 root, .int .i64 (text : Int), .int .i64 (data : Int), .int .i64 (heap : Int), .slice a n cap] 84) :: wkB b m root a' n' cap' :: (memH m x.2 ++ T'))
      (fun x => x.1 ≤ nq ∧ WfM x.2 ∧ shrinkGo Mk root en nq = shrinkGo x.2 root (en - x.1) (nq - x.1))
      (fun x => nq - x.1) (0, Mk) ⟨Nat.zero_le _, hwf, rfl⟩ sublA subT ?_
    rintro ⟨j, Mj⟩ ⟨hj, hwj, hsh⟩
    simp only at hj hwj hsh ⊢
    simp only [List.cons_append, List.nil_append]
    by_cases hlj : j < nq
    · have hd2 : nq - j = (nq - (j + 1)) + 1 := by omega
      obtain ⟨pe, hpe⟩ : ∃ pe : Int, pe = ((en - j - 1 : Nat) : Int) := ⟨_, rfl⟩
      have hpe2 : (en : Int) - 1 - (j : Int) = pe := by omega
      have hus := unmaps_spec m hwj b root a' n' cap' (en - j - 1) (by omega)
      rw [← hpe] at hus
      repeat (first | refine stepA ?_ | intro _)
      rw [hpe2]
      refine callA ?_; refine ⟨_, _, hus, _, cutA, ?_⟩
      rintro v H' rfl
      simp only [List.cons_append, List.nil_append]
      repeat (first | refine stepA ?_ | intro _)
      have hs2 : shrinkGo Mj root (en - j) (nq - j) = shrinkGo (unmapsM Mj root (en - j - 1)) root (en - (j + 1)) (nq - (j + 1)) := by
        rw [hd2, shrinkGo, show en - (j + 1) = en - j - 1 by omega]
      exact ⟨rfl, (j + 1, _), ⟨hlj, unmapsM_wf hwj root (en - j - 1), hsh.trans hs2⟩, by simp only; omega, sublA, subT⟩
    · obtain rfl : j = nq := by omega
      have hs2 : shrinkGo Mk root en j = Mj := hsh.trans (by rw [Nat.sub_self]; rfl)
      rw [hs2]
      repeat (first | refine stepA ?_ | intro _)
      refine callT ?_; refine ⟨_, _, own_in ⟨root, text, data, (heap : Int) + pages, atts⟩ how hn hX, _, cutT, ?_⟩
      rintro v H' ⟨a2, cap2, Hs2, rfl, how2, rfl⟩
      refine L_perm (H' := erB b8 0 :: (b6, .cells (spC sp0 none 0 0) 84) :: (b4, .cells (spC ⟨root, text, data, (heap : Int) + pages, atts⟩ a n cap) 84) :: wkB b m root a' n' cap' :: (memH m Mj ++ (T' ++ Hs2))) (by simp only [List.cons_append, List.nil_append, erB, spC, sp0]; exact permA) ?_
      simp only [List.cons_append, List.nil_append]
      repeat (first | refine stepA ?_ | intro _)
      refine retEA (lvCallA ?_)
      refine ⟨_, _, ends_sp m hwj b b8 0 root (hu'.more Hs2) hn', _, cutT, ?_⟩
      rintro v H' rfl
      refine ⟨_, List.perm_append_comm, ?_⟩
      simp only [List.cons_append, List.nil_append]
      have he : endsM 0 Mj root us = Mj := by rw [endsM, if_pos rfl]
      rw [he]
      refine lvNil ?_
      exact ⟨_, .inr ⟨trivial, a2, cap2, Hs2, rfl, how2, rfl⟩, subT⟩
end
end Go.Proofs.YtcpfmjlceoiofaaGreatDoor

/-
  The walk's own small calculus, 27th part: a drawn region as a graph of states.
-/
namespace Go.Proofs.YtcpfmjlceoiofaaGreatDoor
open Go.RowKit
section rules
variable {X : Cx} {ds : List Deferred} {Hs : Hp} {ops : Array Oper} {K : St → List Deferred → Hp → Prop} {nk : List Nat}
theorem AS_st {S α : Type} (lst : S → Array Bool) (rk : S → Nat) (nx : S → List (Nat × S)) (ok : S → α → Prop) (sl : S → α → St) (sh : S → α → Hp) (hro : X.ro = none)
    (hr : ∀ s, nx s ≠ [] → (Region.ready .any ops (lst s) == (nx s).map (·.1)) = true)
    (hl : ∀ s, ∀ p ∈ nx s, (lst s).setIfInBounds p.1 true = lst p.2 ∧ rk s = rk p.2 + 1)
    (step : ∀ s, ∀ p ∈ nx s, ∀ x, ok s x → ∀ KK : St → List Deferred → Hp → Prop, (∀ y l' H', ok p.2 y → Subl (sl p.2 y) l' → Sub (sh p.2 y) H' → KK l' ds H') →
      ∃ o, ops[p.1]? = some o ∧ L X ops [o] (fun e l' ds' H' => e = .normal ∧ KeepsH nk p.1 Hs H' ∧ KK l' ds' H') (sl s x) ds (sh s x))
    (fin : ∀ s, nx s = [] → ∀ x, ok s x → AS X ops K Hs nk (rk s) (lst s) (sl s x) ds (sh s x)) :
    ∀ n s x l H, rk s = n → ok s x → Subl (sl s x) l → Sub (sh s x) H → AS X ops K Hs nk n (lst s) l ds H := by
  intro n
  induction n with
  | zero =>
    intro s x l H hn hok hsl hsh
    have h0 : nx s = [] := by
      cases h : nx s with
      | nil => rfl
      | cons p ps =>
        have := (hl s p (by rw [h]; simp)).2
        omega
    have := fin s h0 x hok
    rw [hn] at this
    exact fun a w ha hw => this a w (ha.weak hsl.get) (hw.sub hsh)
  | succ m ih =>
    intro s x l H hn hok hsl hsh
    by_cases h0 : nx s = []
    · have := fin s h0 x hok
      rw [hn] at this
      exact fun a w ha hw => this a w (ha.weak hsl.get) (hw.sub hsh)
    · refine AS_all ((nx s).map (·.1)) hro (hr s h0) (by simpa using h0) ?_
      intro i hi
      obtain ⟨p, hp, rfl⟩ := List.mem_map.1 hi
      obtain ⟨h1, h2⟩ := hl s p hp
      obtain ⟨o, ho, hL⟩ := step s p hp x hok (AS X ops K Hs nk m ((lst s).setIfInBounds p.1 true)) (fun y l' H' hy q1 q2 => by
        rw [h1]
        exact ih p.2 y l' H' (by omega) hy q1 q2)
      exact ⟨o, ho, L_weakl hsl (L_weakh hsh hL)⟩
end rules
end Go.Proofs.YtcpfmjlceoiofaaGreatDoor

/-
  Copies: parts.
-/
namespace Go.Proofs.YtcpfmjlceoiofaaGreatDoor
open Go.RowKit
attribute [local irreducible] W L QL PureOp thenQ blockQ retQ Spec IterOk YSpec roundQ scopeQ noGoQ
attribute [local irreducible] AS ASi IterOkC retD retE roundY
set_option maxHeartbeats 6400000
set_option maxRecDepth 4000
theorem parts_spec (addr n : Int) : Spec Tryz.prog 178 [.int .i64 addr, .int .i64 n] [] fun v H' => ∃ bn ba, v = .func (.func 300) #[] #[.pointer (some ⟨bn, 0, none⟩), .pointer (some ⟨ba, 0, none⟩)] ∧ H' = [piB bn n, piB ba addr] := by
  refine Spec_body Tryz.func178 rfl Tryz.ntmps178 rfl (fun w0 => ?_)
  repeat (first | refine stepA ?_ | intro _)
  rename_i ba bn
  (first | refine retA ?_ | refine retB ?_)
  exact ⟨_, ⟨bn, ba, rfl, rfl⟩, subA⟩
def pN (addr n : Nat) : Nat := min n (64 - addr % 64)
abbrev ptV (addr n : Nat) : List Value := [.int .i64 ((addr / 64 : Nat) : Int), .int .i64 ((addr % 64 : Nat) : Int), .int .i64 ((pN addr n : Nat) : Int)]
theorem parts_iter (bn ba : Nat) (s0 : Nat × Nat) (hs : s0.1 + s0.2 ≤ 100000) : IterOkC Tryz.prog 300 [.pointer (some ⟨bn, 0, none⟩), .pointer (some ⟨ba, 0, none⟩)]
    (fun (I J : Nat × Nat → Hp → Prop) => (∀ s H, I s H → ∃ R, Cut [piB bn (s.2 : Int), piB ba (s.1 : Int)] H R) ∧
      ∀ s H, 0 < s.2 → J s H → ∃ R H', Cut [piB bn (s.2 : Int), piB ba (s.1 : Int)] H R ∧ I (s.1 + pN s.1 s.2, s.2 - pN s.1 s.2) H' ∧ ([piB bn ((s.2 - pN s.1 s.2 : Nat) : Int), piB ba ((s.1 + pN s.1 s.2 : Nat) : Int)] ++ R).Perm H')
    (fun s => 0 < s.2 ∧ s.1 + s.2 ≤ 100000) (fun s => [.agg (ptV s.1 s.2).toArray]) (fun s => s.2 = 0) s0 := by
  unfold IterOkC
  rintro y I J S ⟨hA, hJ⟩ hy H h0
  obtain ⟨R, hcut⟩ := hA s0 H h0
  refine Spec_body Tryz.func300 rfl Tryz.ntmps300 rfl (fun w0 => ?_)
  refine W_perm hcut.perm ?_
  simp only [List.cons_append, List.nil_append]
  repeat (first | refine stepA ?_ | intro _)
  refine W_loop (fun x : (Nat × Nat) × Hp => [(0, .func (.yield y) #[] #[]), (1, .pointer (some ⟨bn, 0, none⟩)), (2, .pointer (some ⟨ba, 0, none⟩))]) (fun x => x.2) (fun x => x.1.1 + x.1.2 ≤ 100000 ∧ I x.1 x.2) (fun x => x.1.2) (s0, H) ⟨hs, h0⟩ sublA (Sub.ofPerm hcut.perm) ?_
  rintro ⟨⟨addr, n⟩, Hk⟩ ⟨hk, hIk⟩
  simp only at hk hIk ⊢
  obtain ⟨Rk, hck⟩ := hA (addr, n) Hk hIk
  simp only at hck
  refine W_perm hck.perm ?_
  simp only [List.cons_append, List.nil_append]
  by_cases hn : 0 < n
  · have hpn : 0 < pN addr n ∧ pN addr n ≤ n ∧ pN addr n ≤ 64 := by simp only [pN]; omega
    have emin : min (n : Int) (64 - ((addr % 64 : Nat) : Int)) = ((pN addr n : Nat) : Int) := by
      simp only [pN]
      omega
    have ediv : (addr : Int) / 64 = ((addr / 64 : Nat) : Int) := by omega
    have emod : (addr : Int) % 64 = ((addr % 64 : Nat) : Int) := by omega
    repeat (first | refine stepA ?_ | intro _)
    rename_i b4
    rw [ediv, emod, emin]
    have hyk := hy (addr, n) Hk hIk ⟨hn, hk⟩
    simp only at hyk
    refine L_yield rfl (ev_of rfl (by with_reducible rfl)) rfl hyk (R0 := [(b4, .cells (ptV addr n) 215)]) ?_ ?_
    · refine List.Perm.trans ?_ (List.Perm.append_right _ hck.perm.symm)
      simp only [List.cons_append, List.nil_append]
      exact permA
    · rintro b H' hb
      rcases hb with ⟨rfl, hb⟩ | ⟨rfl, hb⟩
      · obtain ⟨R2, H2, hc2, hI2, hp2⟩ := hJ (addr, n) H' hn hb
        simp only at hc2 hI2 hp2
        refine L_perm (H' := piB bn (n : Int) :: piB ba (addr : Int) :: (b4, .cells (ptV addr n) 215) :: R2) ((List.Perm.append_right _ hc2.perm).trans (by simp only [List.cons_append, List.nil_append]; exact permA)) ?_
        repeat (first | refine stepA ?_ | intro _)
        have ea : (addr : Int) + ((pN addr n : Nat) : Int) = ((addr + pN addr n : Nat) : Int) := by omega
        have en : (n : Int) - ((pN addr n : Nat) : Int) = ((n - pN addr n : Nat) : Int) := by omega
        refine W_any [piB bn (n : Int), (b4, .cells (ptV addr n) 215)] [9] rfl ?_
        refine AS_at 1 (by decide +kernel) ?_; refine takeA ?_
        refine AS_at 2 (by decide +kernel) ?_; refine takeA ?_
        refine AS_at 4 (by decide +kernel) ?_; refine takeA ?_
        refine AS_at 5 (by decide +kernel) ?_; refine takeA ?_
        refine AS_at 6 (by decide +kernel) ?_; refine takeA ?_
        refine AS_at 7 (by decide +kernel) ?_; refine takeA ?_
        refine AS_one 0 rfl (by decide +kernel) rfl ?_
        refine stepA ?_
        refine L_nil ?_; refine ⟨rfl, (by first | exact KeepsH.brk (by decide +kernel) | exact KeepsH.sub subA | exact KeepsH.sub subT), ?_⟩
        refine AS_at 3 (by decide +kernel) ?_; refine takeA ?_
        refine AS_one 8 rfl (by decide +kernel) rfl ?_
        refine stepA ?_
        refine L_nil ?_; refine ⟨rfl, (by first | exact KeepsH.brk (by decide +kernel) | exact KeepsH.sub subA | exact KeepsH.sub subT), ?_⟩
        refine AS_one 9 rfl (by decide +kernel) rfl ?_
        refine stepA ?_
        refine L_nil ?_; refine ⟨rfl, (by first | exact KeepsH.brk (by decide +kernel) | exact KeepsH.sub subA | exact KeepsH.sub subT), ?_⟩
        refine AS_done (by decide +kernel) ?_
        rw [ea, en]
        repeat (first | refine stepA ?_ | intro _)
        exact ⟨rfl, ((addr + pN addr n, n - pN addr n), H2), ⟨by simp only; omega, hI2⟩, by simp only; omega, sublA, Sub.ofPermR (R := [(b4, .cells (ptV addr n) 215)]) (List.Perm.trans (List.Perm.append_right _ hp2.symm) (by simp only [List.cons_append, List.nil_append]; exact permA))⟩
      · repeat (first | refine stepA ?_ | intro _)
        (first | refine retA ?_ | refine retB ?_)
        exact ⟨_, .inr hb, Sub.ofPermR (R := [_]) (List.Perm.refl _)⟩
  · obtain rfl : n = 0 := by omega
    repeat (first | refine stepA ?_ | intro _)
    (first | refine retA ?_ | refine retB ?_)
    exact ⟨_, .inl ⟨_, rfl, hIk⟩, Sub.ofPerm (hck.perm.trans permA)⟩
end Go.Proofs.YtcpfmjlceoiofaaGreatDoor

/-
  Copies: Spans from 0 on; the leaves of bytes.
-/
namespace Go.Proofs.YtcpfmjlceoiofaaGreatDoor
open Go.RowKit
attribute [local irreducible] W L QL PureOp thenQ blockQ retQ Spec IterOk YSpec roundQ scopeQ noGoQ
attribute [local irreducible] AS ASi IterOkC retD retE roundY
set_option maxHeartbeats 6400000
set_option maxRecDepth 4000
def spanN (n : Nat) : Nat := (n + 63) / 64
abbrev kB (b : Nat) (n : Nat) : Nat × Blk := (b, .cells [.int .i64 (n : Int)] 3)
theorem spans_sp (n : Nat) (hn : n ≤ 4096) : Spec Tryz.prog 84 [.int .i64 0, .int .i64 (n : Int)] [] fun v H' => v = .int .i64 ((spanN n : Nat) : Int) ∧ H' = [] := by
  refine Spec_body Tryz.func84 rfl Tryz.ntmps84 rfl (fun w0 => ?_)
  repeat (first | refine stepA ?_ | intro _)
  rename_i b5
  refine callA ?_; refine ⟨_, _, parts_spec 0 (n : Int), _, cutA, ?_⟩
  rintro v H' ⟨bn, ba, rfl, rfl⟩
  simp only [List.cons_append, List.nil_append]
  repeat (first | refine stepA ?_ | intro _)
  have inst : FnOk Tryz.prog 300 := inferInstance
  refine W_rangeC rfl (ev_of rfl (by with_reducible rfl)) inst (parts_iter bn ba (0, n) (by simp only; omega)) (fun _ => rfl) (by simp)
    (fun s Hc => (s.1 + s.2 = n ∧ (s.1 % 64 = 0 ∨ s.2 = 0)) ∧ Hc = [piB bn (s.2 : Int), piB ba (s.1 : Int), kB b5 (spanN s.1)])
    (fun s Hc => (s.1 + s.2 = n ∧ s.1 % 64 = 0 ∧ 0 < s.2) ∧ Hc = [piB bn (s.2 : Int), piB ba (s.1 : Int), kB b5 (spanN s.1 + 1)])
    (fun _ _ => False)
    (fun u v => ⟨by
      rintro s H ⟨Hc, ⟨_, rfl⟩, rfl⟩
      exact ⟨_, .cons (.there (.there .here)) (.cons (.there (.there .here)) .nil)⟩, by
      rintro ⟨x, y⟩ H hy ⟨Hc, ⟨⟨h1, h2, h3⟩, rfl⟩, rfl⟩
      simp only at h1 h2 h3 hy ⊢
      have hp : 0 < pN x y ∧ pN x y ≤ y ∧ (pN x y = 64 ∨ (pN x y = y ∧ y ≤ 64)) := by simp only [pN]; omega
      have e : spanN (x + pN x y) = spanN x + 1 := by simp only [spanN]; omega
      refine ⟨[u, v, kB b5 (spanN x + 1)], _, .cons (.there (.there .here)) (.cons (.there (.there .here)) .nil), ⟨_, ⟨⟨?_, ?_⟩, rfl⟩, rfl⟩, ?_⟩
      · first | omega | (simp only; omega)
      · first | omega | (simp only; omega)
      · simp only [e]
        simp only [List.cons_append, List.nil_append]
        exact permA⟩)
    ⟨[piB bn (n : Int), piB ba 0, kB b5 0], ⟨⟨Nat.zero_add n, .inl rfl⟩, (by show _ = [_, _, kB b5 (spanN 0)]; rw [show spanN 0 = 0 from by decide]; rfl)⟩, subA⟩ ?_ ?_ ?_
  · rintro y ⟨x, z⟩ Hc w1 ⟨⟨h1, h2⟩, rfl⟩ ⟨h3, h4⟩
    simp only at h1 h2 h3 h4 ⊢
    repeat (first | refine stepA ?_ | intro _)
    have hb : spanN x ≤ 2000 := by simp only [spanN]; omega
    refine ⟨rfl, fun w2 => ?_⟩
    repeat (first | refine stepA ?_ | intro _)
    have e : ((spanN x : Nat) : Int) + 1 = ((spanN x + 1 : Nat) : Int) := by omega
    rw [e]
    exact roundQ_n (Hc := [piB bn (z : Int), piB ba (x : Int), kB b5 (spanN x + 1)]) ⟨⟨h1, by omega, h3⟩, rfl⟩ subA
  · rintro D ⟨x, z⟩ Hc hz ⟨⟨h1, h2⟩, rfl⟩
    simp only at hz h1 h2 ⊢
    obtain rfl : x = n := by omega
    repeat (first | refine stepA ?_ | intro _)
    (first | refine retA ?_ | refine retB ?_)
    exact ⟨_, ⟨rfl, rfl⟩, subA⟩
  · rintro D c Hc h
    exact h.elim
/-! ### leaves -/
abbrev stB (b : Nat) (s : List UInt8) : Nat × Blk := (b, .cells [str s] 9)
theorem leaves_spec (s : List UInt8) : Spec Tryz.prog 85 [str s] [] fun v H' => ∃ bs, v = .func (.func 179) #[] #[.pointer (some ⟨bs, 0, none⟩)] ∧ H' = [stB bs s] := by
  refine Spec_body Tryz.func85 rfl Tryz.ntmps85 rfl (fun w0 => ?_)
  repeat (first | refine stepA ?_ | intro _)
  rename_i bs
  (first | refine retA ?_ | refine retB ?_)
  exact ⟨_, ⟨bs, rfl, rfl⟩, subA⟩
theorem leaves_iter (bs : Nat) (s0 : List UInt8) (hs : s0.length ≤ 100000) : IterOkC Tryz.prog 179 [.pointer (some ⟨bs, 0, none⟩)]
    (fun (I J : List UInt8 → Hp → Prop) => (∀ s H, I s H → ∃ R, Cut [stB bs s] H R) ∧
      ∀ s H, s ≠ [] → J s H → ∃ R H', Cut [stB bs s] H R ∧ I (s.drop 64) H' ∧ (stB bs (s.drop 64) :: R).Perm H')
    (fun s => s ≠ []) (fun s => [str (s.take 64)]) (fun s => s = []) s0 := by
  unfold IterOkC
  rintro y I J S ⟨hA, hJ⟩ hy H h0
  refine Spec_body Tryz.func179 rfl Tryz.ntmps179 rfl (fun w0 => ?_)
  repeat (first | refine stepA ?_ | intro _)
  refine W_loop (fun x : List UInt8 × Hp => [(0, .func (.yield y) #[] #[]), (1, .pointer (some ⟨bs, 0, none⟩))]) (fun x => x.2) (fun x => x.1.length ≤ 100000 ∧ I x.1 x.2) (fun x => x.1.length) (s0, H) ⟨hs, h0⟩ sublA (Sub.refl _) ?_
  rintro ⟨s, Hk⟩ ⟨hl, hIk⟩
  simp only at hl hIk ⊢
  obtain ⟨Rk, hck⟩ := hA s Hk hIk
  refine W_perm hck.perm ?_
  simp only [List.cons_append, List.nil_append]
  by_cases hn : s = []
  · subst hn
    repeat (first | refine stepA ?_ | intro _)
    (first | refine retA ?_ | refine retB ?_)
    exact ⟨_, .inl ⟨_, rfl, hIk⟩, Sub.ofPerm (hck.perm.trans permA)⟩
  · have hlen : 0 < s.length := List.length_pos_iff.2 hn
    have emin : min (s.length : Int) 64 = ((min s.length 64 : Nat) : Int) := by omega
    repeat (first | refine stepA ?_ | intro _)
    rw [emin]
    (first | (apply L_P; (· exact rfl); (· exact rfl)) | (apply QL_P; (· exact rfl))); (· (apply P_slStr; (· exact evA); (· exact Bound.none); (· exact Bound.nat rfl); (· omega)))
    have e1 : (s.drop 0).take (min s.length 64 - 0) = s.take 64 := by
      rw [List.drop_zero, Nat.sub_zero, Nat.min_comm, ← List.take_take, List.take_length]
    have hyk := hy s Hk hIk hn
    simp only at hyk
    rw [e1]
    refine L_yield rfl (ev_of rfl (by with_reducible rfl)) rfl hyk (R0 := []) ?_ ?_
    · rw [List.append_nil]
      exact List.Perm.trans permA hck.perm.symm
    · rintro b H' hb
      rw [List.append_nil]
      rcases hb with ⟨rfl, hb⟩ | ⟨rfl, hb⟩
      · obtain ⟨R2, H2, hc2, hI2, hp2⟩ := hJ s H' hn hb
        refine L_perm hc2.perm ?_
        simp only [List.cons_append, List.nil_append]
        repeat (first | refine stepA ?_ | intro _)
        (first | (apply L_P; (· exact rfl); (· exact rfl)) | (apply QL_P; (· exact rfl))); (· (apply P_slStr; (· exact evA); (· exact Bound.nat rfl); (· exact Bound.none); (· omega)))
        have e2 : (s.drop (min s.length 64)).take (s.length - min s.length 64) = s.drop 64 := by
          by_cases h : s.length ≤ 64
          · rw [Nat.min_eq_left h, List.drop_length, List.drop_eq_nil_of_le h, List.take_nil]
          · rw [Nat.min_eq_right (by omega), List.take_of_length_le (by simp)]
        rw [e2]
        repeat (first | refine stepA ?_ | intro _)
        exact ⟨rfl, (s.drop 64, H2), ⟨by simp only [List.length_drop]; omega, hI2⟩, by simp only [List.length_drop]; omega, sublA, Sub.ofPerm (hp2.symm.trans permA)⟩
      · repeat (first | refine stepA ?_ | intro _)
        (first | refine retA ?_ | refine retB ?_)
        exact ⟨_, .inr hb, Sub.refl _⟩
end Go.Proofs.YtcpfmjlceoiofaaGreatDoor
