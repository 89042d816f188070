/-
  Joined texts; each begins with its own sentence.
-/
import Derived.Test.YtcpfmjlceoiofaaGreatDoorM17
import Derived.Test.YtcpfmjlceoiofaaGreatDoorM13
import Derived.Test.YtcpfmjlceoiofaaGreatDoorM11
import Derived.Test.YtcpfmjlceoiofaaGreatDoorM06
set_option linter.unusedSimpArgs false
set_option linter.unusedVariables false
set_option linter.unusedSectionVars false
/-
  Spaces: attachments, own, of, Drop.
-/
namespace Go.Proofs.YtcpfmjlceoiofaaGreatDoor
open Go.RowKit
attribute [local irreducible] W L QL PureOp thenQ blockQ retQ Spec IterOk YSpec roundQ scopeQ noGoQ
attribute [local irreducible] AS ASi IterOkC retD retE roundY
set_option maxHeartbeats 6400000
set_option maxRecDepth 4000
structure At where
  page : Int
  count : Int
  write : Bool
deriving DecidableEq
abbrev At.cells (x : At) : List Value := [.int .i64 x.page, .int .i64 x.count, .bool x.write]
def atC (l : List At) : List Value := l.flatMap At.cells
theorem atC_append (l k : List At) : atC (l ++ k) = atC l ++ atC k := by simp [atC]
theorem atC_len : ∀ l : List At, (atC l).length = l.length * 3
  | [] => rfl
  | x :: l => by
    have := atC_len l
    simp only [atC, List.flatMap_cons, List.length_append, List.length_cons, List.length_nil] at this ⊢
    omega
theorem atC_one (l : List At) : ∀ u ∈ atC l, u.oneCell' = true := by
  intro u hu
  obtain ⟨x, _, hx⟩ := List.mem_flatMap.1 hu
  simp only [At.cells, List.mem_cons, List.not_mem_nil, or_false] at hx
  rcases hx with rfl | rfl | rfl <;> rfl
abbrev oA := Own 439 3
structure SpM where
  root : Int
  text : Int
  data : Int
  heap : Int
  atts : List At
abbrev spC (s : SpM) (a : Option Addr) (n cap : Nat) : List Value := [.int .i64 s.root, .int .i64 s.text, .int .i64 s.data, .int .i64 s.heap, .slice a n cap]
abbrev spV (s : SpM) (a : Option Addr) (n cap : Nat) : Value := .agg (spC s a n cap).toArray
theorem cloneA_spec {a : Option Addr} {n cap : Nat} {l : List At} {Hs : Hp} (how : oA a n cap (atC l) Hs) (hn : n ≤ 1000) :
    Spec Tryz.prog 309 [.slice a n cap] Hs fun v H' => ∃ a2 cap2 Hs2, v = .slice a2 n cap2 ∧ oA a2 n cap2 (atC l) Hs2 ∧ H' = Hs2 ++ Hs := by
  have hl := how.len
  have hml := atC_len l
  rcases how.inv with ⟨rfl, rfl, rfl, hx, rfl⟩ | ⟨g, ys, rfl, rfl, h1, h2, h3, h4⟩
  · refine Spec_body Tryz.func309 rfl Tryz.ntmps309 rfl (fun w0 => ?_)
    repeat (first | refine stepA ?_ | intro _)
    (first | (apply L_P; (· exact rfl); (· exact rfl)) | (apply QL_P; (· exact rfl))); (· (apply P_eqNilSl; (· exact evA); (· exact evA)))
    simp only [Option.isNone_none]
    repeat (first | refine stepA ?_ | intro _)
    (first | refine retA ?_ | refine retB ?_)
    exact ⟨_, ⟨none, 0, [], rfl, by rw [hx]; exact Own.nil, rfl⟩, subA⟩
  · refine Spec_body Tryz.func309 rfl Tryz.ntmps309 rfl (fun w0 => ?_)
    repeat (first | refine stepA ?_ | intro _)
    (first | (apply L_P; (· exact rfl); (· exact rfl)) | (apply QL_P; (· exact rfl))); (· (apply P_eqNilSl; (· exact evA); (· exact evA)))
    simp only [Option.isNone_some]
    repeat (first | refine stepA ?_ | intro _)
    apply L_buildSl0
    · exact rfl
    intro gz
    repeat (first | refine stepA ?_ | intro _)
    by_cases h0 : n = 0
    · subst h0
      have e0 : atC l = [] := List.length_eq_zero_iff.1 (by omega)
      rw [e0] at *
      refine L_appendNone rfl evA evA rfl (Nat.le_refl _) ?_
      repeat (first | refine stepA ?_ | intro _)
      (first | refine retA ?_ | refine retB ?_)
      exact ⟨_, ⟨some ⟨gz, 0, none⟩, 0, [(gz, .cells [] 439)], rfl, Own.blk (ys := []) rfl (Nat.le_refl _) (Nat.le_refl _) (Nat.zero_le _), rfl⟩, subA⟩
    apply L_append
    · exact rfl
    · exact evA
    · exact evA
    · exact (Own.blk (n := 0) (cap := 0) (xs := []) (ys := []) rfl (Nat.le_refl _) (Nat.le_refl _) (Nat.zero_le _) : Own 439 3 _ _ _ _ _)
    · exact Cut.perm cutA
    · exact Lies.cells (k := n * 3) (news := atC l) pullA (by rw [List.drop_zero, List.take_append_of_le_length (by omega), List.take_of_length_le (by omega)])
    · omega
    · exact atC_one l
    · omega
    · simp only [maxLen]; omega
    · omega
    · rfl
    rintro g2 cap2 ys2 h1 h2 h3
    repeat (first | refine stepA ?_ | intro _)
    (first | refine retA ?_ | refine retB ?_)
    rw [List.nil_append] at h1 ⊢
    rw [Nat.zero_add] at h2 ⊢
    exact ⟨_, ⟨some ⟨g2, 0, none⟩, cap2, [(g2, .cells (atC l ++ ys2) 439)], rfl, .blk (by omega) h1 h2 h3, rfl⟩, subA⟩
theorem own_sp (s : SpM) {a : Option Addr} {n cap : Nat} {Hs : Hp} (how : oA a n cap (atC s.atts) Hs) (hn : n ≤ 1000) :
    Spec Tryz.prog 196 [spV s a n cap] Hs fun v H' => ∃ a2 cap2 Hs2, v = spV s a2 n cap2 ∧ oA a2 n cap2 (atC s.atts) Hs2 ∧ H' = Hs2 ++ Hs := by
  refine Spec_body Tryz.func196 rfl Tryz.ntmps196 rfl (fun w0 => ?_)
  repeat (first | refine stepA ?_ | intro _)
  refine callT ?_; refine ⟨_, _, cloneA_spec how hn, _, cutT, ?_⟩
  rintro v H' ⟨a2, cap2, Hs2, rfl, how2, rfl⟩
  simp only [List.cons_append, List.nil_append]
  repeat (first | refine stepA ?_ | intro _)
  (first | refine retA ?_ | refine retB ?_)
  exact ⟨_, ⟨a2, cap2, Hs2, rfl, how2, rfl⟩, subT⟩
section
variable (m : MemP) {M : List Frm}
theorem UOk.none (b : Nat) (root : Int) (Fr : Hp) : UOk Fr b m root .none 0 0 [] Fr :=
  ⟨[], rfl, rfl, fun _ h => absurd h (by simp), [], Own.nil, List.Perm.refl _⟩
theorem of_sp (s : SpM) (a : Option Addr) (n cap : Nat) : Spec Tryz.prog 197 [m.ptr, spV s a n cap] [] fun v H' => ∃ b, v = wkP b ∧ H' = [wkB b m s.root none 0 0] := by
  refine Spec_body Tryz.func197 rfl Tryz.ntmps197 rfl (fun w0 => ?_)
  repeat (first | refine stepA ?_ | intro _)
  rename_i b
  (first | refine retA ?_ | refine retB ?_)
  exact ⟨_, ⟨b, rfl, rfl⟩, subA⟩
/-- pages are unmapped, one by one -/
def unmapL (M : List Frm) (root : Int) (l : List Nat) : List Frm := l.foldl (fun M p => unmapsM M root p) M
theorem unmapL_wf {M : List Frm} (h : WfM M) (root : Int) (l : List Nat) : WfM (unmapL M root l) := by
  unfold unmapL
  induction l generalizing M with
  | nil => exact h
  | cons p l ih => exact ih (unmapsM_wf h root p)
theorem unmapL_take {M : List Frm} {root : Int} {l : List Nat} {k p : Nat} (h : l[k]? = some p) : unmapL M root (l.take (k + 1)) = unmapsM (unmapL M root (l.take k)) root p := by
  rw [take_next h, unmapL, List.foldl_append]
  rfl
/-- all of a space is dropped: what is told, the memory behind it -/
def sdropM (M : List Frm) (root : Int) : Int × List Frm :=
  if refsM M root = 0 then (10, M) else dropM (unmapL M root (pagesTo M root 16)) root
theorem rowP_lt {M : List Frm} {t : Int} {i k : Nat} (hi : i < 16) (hk : k ≤ 16) : ∀ p ∈ rowP M t i k, p < 256 := by
  intro p hp
  obtain ⟨j, hj, rfl⟩ := List.mem_map.1 hp
  have := List.mem_range.1 (List.mem_filter.1 hj).1
  omega
theorem pagesTo_lt {M : List Frm} {root : Int} {i : Nat} (hi : i ≤ 16) : ∀ p ∈ pagesTo M root i, p < 256 := by
  intro p hp
  obtain ⟨j, hj, h⟩ := List.mem_flatMap.1 hp
  have hj := List.mem_range.1 hj
  split at h
  · cases h
  · exact rowP_lt (by omega) (Nat.le_refl _) p h
theorem sdrop_sp (hM : WfM M) (s : SpM) (a : Option Addr) (n cap : Nat) : Spec Tryz.prog 106 [m.ptr, spV s a n cap] (memH m M) fun v H' => v = .int .i64 (sdropM M s.root).1 ∧ H' = memH m (sdropM M s.root).2 := by
  refine Spec_body Tryz.func106 rfl Tryz.ntmps106 rfl (fun w0 => ?_)
  by_cases h0 : refsM M s.root = 0
  · have e : sdropM M s.root = (10, M) := by rw [sdropM, if_pos h0]
    rw [e]
    repeat (first | refine stepA ?_ | intro _)
    refine callA ?_; refine ⟨_, _, ptpages_bad m hM s.root h0, _, cutA, ?_⟩
    rintro v H' ⟨rfl, rfl⟩
    simp only [List.cons_append, List.nil_append]
    repeat (first | refine stepA ?_ | intro _)
    (first | refine retA ?_ | refine retB ?_); exact ⟨_, ⟨rfl, rfl⟩, subA⟩
  obtain ⟨l, hl⟩ : ∃ l, l = pagesTo M s.root 16 := ⟨_, rfl⟩
  have hll : l.length ≤ 256 := by rw [hl]; exact pagesTo_len M s.root 16
  have hlt : ∀ p ∈ l, p < 256 := by rw [hl]; exact pagesTo_lt (Nat.le_refl _)
  have e : sdropM M s.root = dropM (unmapL M s.root l) s.root := by rw [sdropM, if_neg h0, hl]
  rw [e]
  repeat (first | refine stepA ?_ | intro _)
  rename_i b3
  refine callT ?_; refine ⟨_, _, ptpages_spec m hM s.root h0, _, cutT, ?_⟩
  rw [← hl]
  rintro v H' ⟨ap, capp, Hs, rfl, how, rfl⟩
  simp only [List.cons_append, List.nil_append]
  repeat (first | refine stepA ?_ | intro _)
  refine callA ?_; refine ⟨_, _, of_sp m s a n cap, _, cutA, ?_⟩
  rintro v H' ⟨b, rfl, rfl⟩
  simp only [List.cons_append, List.nil_append]
  repeat (first | refine stepA ?_ | intro _)
  refine W_loop (fun k : Nat => [(0, m.ptr), (3, .pointer (some ⟨b3, 0, none⟩)), (7, wkP b), (23, .slice ap l.length capp), (24, .int .i64 (l.length : Int)), (25, .int .i64 (k : Int))]) (fun k => (b3, .cells (spC s a n cap) 84) :: wkB b m s.root none 0 0 :: (memH m (unmapL M s.root (l.take k)) ++ Hs)) (fun k => k ≤ l.length) (fun k => l.length - k) 0 (Nat.zero_le _) sublA subT ?_
  intro k hk
  simp only [List.cons_append, List.nil_append]
  have hwf := unmapL_wf hM s.root (l.take k)
  by_cases hlk : k < l.length
  · obtain ⟨p, hp⟩ : ∃ p, l[k]? = some p := ⟨l[k], by simp [hlk]⟩
    have hpl := hlt p (List.mem_of_getElem? hp)
    rcases how.inv with ⟨_, h, _⟩ | ⟨g, ys, rfl, rfl, h1, h2, h3, h4⟩
    · omega
    have hc := idv_get (ys := ys) hp
    repeat (first | refine stepA ?_ | intro _)
    refine callA ?_; refine ⟨_, _, unmaps_spec m hwf b s.root none 0 0 p hpl, _, cutA, ?_⟩
    rintro v H' rfl
    rw [← unmapL_take hp]
    simp only [List.cons_append, List.nil_append]
    repeat (first | refine stepA ?_ | intro _)
    exact ⟨rfl, k + 1, by omega, by omega, sublA, subT⟩
  · obtain rfl : k = l.length := by omega
    rw [List.take_length] at hwf ⊢
    repeat (first | refine stepA ?_ | intro _)
    refine callA ?_; refine ⟨_, _, ptdrop_spec m hwf s.root, _, cutA, ?_⟩
    rintro v H' ⟨rfl, rfl⟩
    simp only [List.cons_append, List.nil_append]
    repeat (first | refine stepA ?_ | intro _)
    (first | refine retA ?_ | refine retB ?_)
    exact ⟨_, ⟨rfl, rfl⟩, subT⟩
end
end Go.Proofs.YtcpfmjlceoiofaaGreatDoor

/-
  Spaces: Fork.
-/
namespace Go.Proofs.YtcpfmjlceoiofaaGreatDoor
open Go.RowKit
attribute [local irreducible] W L QL PureOp thenQ blockQ retQ Spec IterOk YSpec roundQ scopeQ noGoQ
attribute [local irreducible] AS ASi IterOkC retD retE roundY
set_option maxHeartbeats 12800000
set_option maxRecDepth 4000
abbrev sp0 : SpM := ⟨0, 0, 0, 0, []⟩
def forkStep (M : List Frm) (src dst : Int) (us : List (Option Nat)) (p : Nat) : Int × List Frm × List (Option Nat) :=
  let w := walkM M src p
  if bits .and .i64 (w.2.1 : Int) 4 = 0 then filledM M dst us p w.2.1 (readM M w.1 0 64).1 else sharedM M dst us p w.1 w.2.1
def forkGo (M : List Frm) (src dst : Int) (us : List (Option Nat)) : List Nat → Int × List Frm × List (Option Nat)
  | [] => (0, M, us)
  | p :: ps => let r := forkStep M src dst us p; if r.1 = 0 then forkGo r.2.1 src dst r.2.2 ps else r
def pagesL (M : List Frm) (root : Int) : List Nat := if refsM M root = 0 then [] else pagesTo M root 16
/-- a space is forked: the error, the new root, the memory -/
def forkM (M : List Frm) (src : Int) : Int × Int × List Frm :=
  if leftM M = 0 then (11, 0, M) else
  let r := forkGo (allocS M).2.2 src (aId M) [none] (pagesL (allocS M).2.2 src)
  if r.1 = 0 then (0, aId M, r.2.1) else (r.1, 0, undoAll r.2.1 (aId M) r.2.2)
theorem forkStep_wf {M : List Frm} (h : WfM M) (src dst : Int) (us : List (Option Nat)) (p : Nat) : WfM (forkStep M src dst us p).2.1 := by
  rw [forkStep]
  split
  · exact filledM_wf h _ _ _ _ _
  · exact sharedM_wf h _ _ _ _ _
theorem forkStep_len (M : List Frm) (src dst : Int) (us : List (Option Nat)) (p : Nat) : (forkStep M src dst us p).2.2.length ≤ us.length + 1 := by
  rw [forkStep]
  split
  · exact filledM_len _ _ _ _ _ _
  · exact sharedM_len _ _ _ _ _ _
theorem pagesL_len (M : List Frm) (root : Int) : (pagesL M root).length ≤ 256 := by
  rw [pagesL]
  split
  · simp
  · exact pagesTo_len M root 16
theorem pagesL_lt {M : List Frm} {root : Int} : ∀ p ∈ pagesL M root, p < 256 := by
  intro p hp
  rw [pagesL] at hp
  split at hp
  · cases hp
  · exact pagesTo_lt (Nat.le_refl _) p hp
section
variable (m : MemP) {M : List Frm}
theorem ptpages_any (hM : WfM M) (root : Int) : Spec Tryz.prog 194 [m.ptr, .int .i64 root] (memH m M) fun v H' => ∃ a cap Hs, v = .tuple #[.slice a (pagesL M root).length cap, .int .i64 (if refsM M root = 0 then 10 else 0)] ∧ oI a (pagesL M root).length cap (idv (pagesL M root)) Hs ∧ H' = memH m M ++ Hs := by
  by_cases h0 : refsM M root = 0
  · have e : pagesL M root = [] := by rw [pagesL, if_pos h0]
    rw [e, if_pos h0]
    refine (ptpages_bad m hM root h0).mono ?_
    rintro v H' ⟨rfl, rfl⟩
    exact ⟨none, 0, [], rfl, Own.nil, by simp⟩
  · have e : pagesL M root = pagesTo M root 16 := by rw [pagesL, if_neg h0]
    rw [e, if_neg h0]
    exact ptpages_spec m hM root h0
theorem own_in (s : SpM) {a : Option Addr} {n cap : Nat} {X T Hs : Hp} (how : oA a n cap (atC s.atts) Hs) (hn : n ≤ 1000) (hT : T.Perm (X ++ Hs)) :
    Spec Tryz.prog 196 [spV s a n cap] T fun v H' => ∃ a2 cap2 Hs2, v = spV s a2 n cap2 ∧ oA a2 n cap2 (atC s.atts) Hs2 ∧ H' = Hs2 ++ T := by
  refine Spec.perm (H' := Hs ++ X) (hT.trans List.perm_append_comm) (((own_sp s how hn).frame X).permR ?_)
  rintro v H1 ⟨H2, ⟨a2, cap2, Hs2, rfl, how2, rfl⟩, rfl⟩
  refine ⟨_, ⟨a2, cap2, Hs2, rfl, how2, rfl⟩, ?_⟩
  rw [List.append_assoc]
  exact List.Perm.append_left _ (List.perm_append_comm.trans hT.symm)
theorem UOk.perm {b : Nat} {m : MemP} {root : Int} {a : Option Addr} {n cap : Nat} {us : List (Option Nat)} {Fr Hu : Hp} (h : UOk Fr b m root a n cap us Hu) : ∃ X, Hu.Perm (X ++ Fr) := by
  obtain ⟨U, hU, hl, hps, Ha, how, hp1⟩ := h
  exact ⟨Ha ++ U.flatMap (Ui.blks b m root), by rw [List.append_assoc]; exact hp1⟩
theorem fork_sp (hM : WfM M) (s : SpM) {a : Option Addr} {n cap : Nat} {Hs : Hp} (how : oA a n cap (atC s.atts) Hs) (hn : n ≤ 1000) : Spec Tryz.prog 103 [m.ptr, spV s a n cap] (memH m M ++ Hs) fun v H' =>
    ((forkM M s.root).1 ≠ 0 ∧ v = .tuple #[spV sp0 none 0 0, .int .i64 (forkM M s.root).1] ∧ H' = memH m (forkM M s.root).2.2 ++ Hs) ∨
    ((forkM M s.root).1 = 0 ∧ ∃ a2 cap2 Hs2, v = .tuple #[spV { s with root := (forkM M s.root).2.1 } a2 n cap2, .int .i64 0] ∧ oA a2 n cap2 (atC s.atts) Hs2 ∧ H' = memH m (forkM M s.root).2.2 ++ (Hs ++ Hs2)) := by
  refine Spec_bodyE Tryz.func103 rfl Tryz.ntmps103 rfl (fun w0 => ?_)
  simp only [List.cons_append, List.nil_append]
  repeat (first | refine stepA ?_ | intro _)
  rename_i b3 b4 b5
  refine callT ?_; refine ⟨_, _, begun_sp m hM, _, cutT, ?_⟩
  rintro v H' ⟨b, au, nu, cu, Hu, rfl, hu, rfl⟩
  refine L_perm (H' := erB b5 0 :: (b4, .cells (spC sp0 none 0 0) 84) :: (b3, .cells (spC s a n cap) 84) :: wkB b m (allocS M).1 au nu cu :: (memH m (allocS M).2.2 ++ (Hu ++ Hs))) (by simp only [List.cons_append, List.nil_append, erB, spC, sp0]; exact permA) ?_
  simp only [List.cons_append, List.nil_append]
  by_cases h0 : leftM M = 0
  · have ea := allocS_no h0
    have e : forkM M s.root = (11, 0, M) := by rw [forkM, if_pos h0]
    rw [e]
    have a2 : (allocS M).2.1 = 11 := by rw [ea]
    have a3 : (allocS M).2.2 = M := by rw [ea]
    rw [a2, a3]
    repeat (first | refine stepA ?_ | intro _)
    refine W_any [erB b5 11] [3] rfl ?_
    refine AS_at 0 (by decide +kernel) ?_; refine takeA ?_
    refine AS_at 1 (by decide +kernel) ?_; refine takeA ?_
    refine AS_one 2 rfl (by decide +kernel) rfl ?_
    refine stepA ?_
    refine L_nil ?_; refine ⟨rfl, (by first | exact KeepsH.brk (by decide +kernel) | exact KeepsH.sub subA | exact KeepsH.sub subT), ?_⟩
    refine AS_one 3 rfl (by decide +kernel) rfl ?_
    refine stepA ?_
    refine L_nil ?_; refine ⟨rfl, (by first | exact KeepsH.brk (by decide +kernel) | exact KeepsH.sub subA | exact KeepsH.sub subT), ?_⟩
    refine AS_done (by decide +kernel) ?_
    repeat (first | refine stepA ?_ | intro _)
    refine retEA (lvNil ?_)
    exact ⟨_, .inl ⟨by simp, rfl, rfl⟩, Sub.ofPermR (R := [erB b5 11, (b4, .cells (spC sp0 none 0 0) 84), (b3, .cells (spC s a n cap) 84), wkB b m (allocS M).1 au nu cu] ++ Hu) (by simp only [List.cons_append, List.nil_append, erB, spC, sp0]; exact permA)⟩
  · obtain ⟨ea, _⟩ := allocS_ok (M := M) (by omega)
    obtain ⟨M1, hM1⟩ : ∃ M1, M1 = (allocS M).2.2 := ⟨_, rfl⟩
    obtain ⟨dst, hdst⟩ : ∃ dst : Int, dst = (aId M : Int) := ⟨_, rfl⟩
    have hw1 : WfM M1 := by rw [hM1]; exact allocS_wf hM
    have e1 : (allocS M).1 = dst := by rw [ea, hdst]
    have e2 : (allocS M).2.1 = 0 := by rw [ea]
    obtain ⟨ps, hps⟩ : ∃ ps, ps = pagesL M1 s.root := ⟨_, rfl⟩
    have hpl : ps.length ≤ 256 := by rw [hps]; exact pagesL_len M1 s.root
    have hpt : ∀ p ∈ ps, p < 256 := by rw [hps]; exact pagesL_lt
    have e : forkM M s.root = if (forkGo M1 s.root dst [none] ps).1 = 0 then (0, dst, (forkGo M1 s.root dst [none] ps).2.1) else ((forkGo M1 s.root dst [none] ps).1, 0, undoAll (forkGo M1 s.root dst [none] ps).2.1 dst (forkGo M1 s.root dst [none] ps).2.2) := by
      rw [forkM, if_neg h0, hps, hdst, hM1]
    rw [e]
    clear e
    rw [e1] at hu
    rw [e1, e2, ← hM1]
    have hu : UOk Hs b m dst au nu cu [none] (Hu ++ Hs) := hu.more Hs
    obtain ⟨T, hT⟩ : ∃ T, T = Hu ++ Hs := ⟨_, rfl⟩
    rw [← hT] at hu ⊢
    clear hT
    repeat (first | refine stepA ?_ | intro _)
    apply L_deferA
    · exact rfl
    · exact evA
    · exact rfl
    repeat (first | refine stepA ?_ | intro _)
    refine callT ?_; refine ⟨_, _, ptpages_any m hw1 s.root, _, cutT, ?_⟩
    rw [← hps]
    rintro v H' ⟨ap, capp, Hg, rfl, howp, rfl⟩
    refine L_perm (H' := erB b5 0 :: (b4, .cells (spC sp0 none 0 0) 84) :: (b3, .cells (spC s a n cap) 84) :: wkB b m dst au nu cu :: (memH m M1 ++ (Hg ++ T))) (by simp only [List.cons_append, List.nil_append, erB, spC, sp0]; exact permA) ?_
    simp only [List.cons_append, List.nil_append]
    repeat (first | refine stepA ?_ | intro _)
    refine W_loop (fun x : Nat × List Frm × List (Option Nat) × (Option Addr × Nat × Nat) × Hp => [(0, m.ptr), (3, .pointer (some ⟨b3, 0, none⟩)), (4, .pointer (some ⟨b4, 0, none⟩)), (5, .pointer (some ⟨b5, 0, none⟩)), (6, wkP b), (36, .slice ap ps.length capp), (37, .int .i64 (ps.length : Int)), (38, .int .i64 (x.1 : Int))])
      (fun x => erB b5 0 :: (b4, .cells (spC sp0 none 0 0) 84) :: (b3, .cells (spC s a n cap) 84) :: wkB b m dst x.2.2.2.1.1 x.2.2.2.1.2.1 x.2.2.2.1.2.2 :: (memH m x.2.1 ++ (Hg ++ x.2.2.2.2)))
      (fun x => x.1 ≤ ps.length ∧ WfM x.2.1 ∧ UOk Hs b m dst x.2.2.2.1.1 x.2.2.2.1.2.1 x.2.2.2.1.2.2 x.2.2.1 x.2.2.2.2 ∧ x.2.2.1.length ≤ x.1 + 1 ∧ forkGo M1 s.root dst [none] ps = forkGo x.2.1 s.root dst x.2.2.1 (ps.drop x.1))
      (fun x => ps.length - x.1) (0, M1, [none], (au, nu, cu), T) ⟨Nat.zero_le _, hw1, hu, Nat.le_refl _, rfl⟩ sublA subT ?_
    rintro ⟨k, Mk, us, ⟨a', n', cap'⟩, T'⟩ ⟨hk, hwf, hu', hlen, hgo⟩
    simp only at hk hwf hu' hlen hgo ⊢
    have hn' : n' ≤ 1000 := by rw [hu'.len]; omega
    simp only [List.cons_append, List.nil_append]
    by_cases hlk : k < ps.length
    · obtain ⟨p, hp⟩ : ∃ p, ps[k]? = some p := ⟨ps[k], by simp [hlk]⟩
      have hp256 := hpt p (List.mem_of_getElem? hp)
      have hdr : ps.drop k = p :: ps.drop (k + 1) := List.drop_eq_getElem?_toList_append.trans (by rw [hp]; rfl)
      rcases howp.inv with ⟨_, h, _⟩ | ⟨g, ys, rfl, rfl, h1, h2, h3, h4⟩
      · omega
      have hc := idv_get (ys := ys) hp
      simp only [List.cons_append, List.nil_append]
      repeat (first | refine stepA ?_ | intro _)
      refine callA ?_; refine ⟨_, _, ptwalk_spec m hwf s.root p hp256, _, cutA, ?_⟩
      rintro v H' ⟨rfl, rfl⟩
      simp only [List.cons_append, List.nil_append]
      repeat (first | refine stepA ?_ | intro _)
      (first | (apply L_P; (· exact rfl); (· exact rfl)) | (apply QL_P; (· exact rfl))); (· (apply P_and; (· exact evA); (· exact evA); (· exact rfl)))
      have hw2 := forkStep_wf hwf s.root dst us p
      have hl2 := forkStep_len Mk s.root dst us p
      by_cases hb : bits .and .i64 ((walkM Mk s.root p).2.1 : Int) 4 = 0
      · have hst : forkStep Mk s.root dst us p = filledM Mk dst us p (walkM Mk s.root p).2.1 (readM Mk (walkM Mk s.root p).1 0 64).1 := by rw [forkStep, if_pos hb]
        repeat (first | refine stepA ?_ | intro _)
        refine callA ?_; refine ⟨_, _, read_spec m hwf ((walkM Mk s.root p).1 : Int) 0 64, _, cutA, ?_⟩
        rintro v H' ⟨rfl, rfl⟩
        simp only [List.cons_append, List.nil_append]
        repeat (first | refine stepA ?_ | intro _)
        refine callT ?_; refine ⟨_, _, filled_sp m hwf b dst hu' hn' p (walkM Mk s.root p).2.1 hp256 (readM Mk (walkM Mk s.root p).1 0 64).1, _, cutT, ?_⟩
        rintro v H' ⟨a2, n2, c2, T2, rfl, hu2, rfl⟩
        rw [← hst] at hu2 ⊢
        simp only [List.cons_append, List.nil_append]
        by_cases hr : (forkStep Mk s.root dst us p).1 = 0
        · rw [hr]
          repeat (first | refine stepA ?_ | intro _)
          have hg2 : forkGo Mk s.root dst us (ps.drop k) = forkGo (forkStep Mk s.root dst us p).2.1 s.root dst (forkStep Mk s.root dst us p).2.2 (ps.drop (k + 1)) := by
            rw [hdr, forkGo]
            simp only [hr, if_true]
          exact ⟨rfl, (k + 1, _, _, (a2, n2, c2), T2), ⟨hlk, hw2, hu2, Nat.le_trans hl2 (Nat.add_le_add_right hlen 1), hgo.trans hg2⟩, by simp only; omega, sublA, subT⟩
        · have hg2 : forkGo M1 s.root dst [none] ps = forkStep Mk s.root dst us p := by
            rw [hgo, hdr, forkGo]
            simp only [hr, if_false]
          rw [hg2, if_neg hr]
          repeat (first | refine stepA ?_ | intro _)
          refine W_any [erB b5 (forkStep Mk s.root dst us p).1] [3] rfl ?_
          refine AS_at 0 (by decide +kernel) ?_; refine takeA ?_
          refine AS_at 1 (by decide +kernel) ?_; refine takeA ?_
          refine AS_one 2 rfl (by decide +kernel) rfl ?_
          refine stepA ?_
          refine L_nil ?_; refine ⟨rfl, (by first | exact KeepsH.brk (by decide +kernel) | exact KeepsH.sub subA | exact KeepsH.sub subT), ?_⟩
          refine AS_one 3 rfl (by decide +kernel) rfl ?_
          refine stepA ?_
          refine L_nil ?_; refine ⟨rfl, (by first | exact KeepsH.brk (by decide +kernel) | exact KeepsH.sub subA | exact KeepsH.sub subT), ?_⟩
          refine AS_done (by decide +kernel) ?_
          repeat (first | refine stepA ?_ | intro _)
          have hn2 : n2 ≤ 1000 := by rw [hu2.len]; omega
          refine retEA (lvCallA ?_)
          refine ⟨_, _, ends_sp m hw2 b b5 (forkStep Mk s.root dst us p).1 dst hu2 hn2, _, cutT, ?_⟩
          rintro v H' rfl
          refine ⟨_, List.perm_append_comm, ?_⟩
          simp only [List.cons_append, List.nil_append]
          have he : endsM (forkStep Mk s.root dst us p).1 (forkStep Mk s.root dst us p).2.1 dst (forkStep Mk s.root dst us p).2.2 = undoAll (forkStep Mk s.root dst us p).2.1 dst (forkStep Mk s.root dst us p).2.2 := by rw [endsM, if_neg hr]
          rw [he]
          refine lvNil ?_
          exact ⟨_, .inl ⟨hr, rfl, rfl⟩, subT⟩
      · have hst : forkStep Mk s.root dst us p = sharedM Mk dst us p (walkM Mk s.root p).1 (walkM Mk s.root p).2.1 := by rw [forkStep, if_neg hb]
        repeat (first | refine stepA ?_ | intro _)
        refine callT ?_; refine ⟨_, _, shared_sp m hwf b dst hu' hn' p (walkM Mk s.root p).1 (walkM Mk s.root p).2.1 hp256, _, cutT, ?_⟩
        rintro v H' ⟨a2, n2, c2, T2, rfl, hu2, rfl⟩
        rw [← hst] at hu2 ⊢
        simp only [List.cons_append, List.nil_append]
        by_cases hr : (forkStep Mk s.root dst us p).1 = 0
        · rw [hr]
          repeat (first | refine stepA ?_ | intro _)
          have hg2 : forkGo Mk s.root dst us (ps.drop k) = forkGo (forkStep Mk s.root dst us p).2.1 s.root dst (forkStep Mk s.root dst us p).2.2 (ps.drop (k + 1)) := by
            rw [hdr, forkGo]
            simp only [hr, if_true]
          exact ⟨rfl, (k + 1, _, _, (a2, n2, c2), T2), ⟨hlk, hw2, hu2, Nat.le_trans hl2 (Nat.add_le_add_right hlen 1), hgo.trans hg2⟩, by simp only; omega, sublA, subT⟩
        · have hg2 : forkGo M1 s.root dst [none] ps = forkStep Mk s.root dst us p := by
            rw [hgo, hdr, forkGo]
            simp only [hr, if_false]
          rw [hg2, if_neg hr]
          repeat (first | refine stepA ?_ | intro _)
          refine W_any [erB b5 (forkStep Mk s.root dst us p).1] [3] rfl ?_
          refine AS_at 0 (by decide +kernel) ?_; refine takeA ?_
          refine AS_at 1 (by decide +kernel) ?_; refine takeA ?_
          refine AS_one 2 rfl (by decide +kernel) rfl ?_
          refine stepA ?_
          refine L_nil ?_; refine ⟨rfl, (by first | exact KeepsH.brk (by decide +kernel) | exact KeepsH.sub subA | exact KeepsH.sub subT), ?_⟩
          refine AS_one 3 rfl (by decide +kernel) rfl ?_
          refine stepA ?_
          refine L_nil ?_; refine ⟨rfl, (by first | exact KeepsH.brk (by decide +kernel) | exact KeepsH.sub subA | exact KeepsH.sub subT), ?_⟩
          refine AS_done (by decide +kernel) ?_
          repeat (first | refine stepA ?_ | intro _)
          have hn2 : n2 ≤ 1000 := by rw [hu2.len]; omega
          refine retEA (lvCallA ?_)
          refine ⟨_, _, ends_sp m hw2 b b5 (forkStep Mk s.root dst us p).1 dst hu2 hn2, _, cutT, ?_⟩
          rintro v H' rfl
          refine ⟨_, List.perm_append_comm, ?_⟩
          simp only [List.cons_append, List.nil_append]
          have he : endsM (forkStep Mk s.root dst us p).1 (forkStep Mk s.root dst us p).2.1 dst (forkStep Mk s.root dst us p).2.2 = undoAll (forkStep Mk s.root dst us p).2.1 dst (forkStep Mk s.root dst us p).2.2 := by rw [endsM, if_neg hr]
          rw [he]
          refine lvNil ?_
          exact ⟨_, .inl ⟨hr, rfl, rfl⟩, subT⟩
    · obtain rfl : k = ps.length := by omega
      have hg2 : forkGo M1 s.root dst [none] ps = (0, Mk, us) := hgo.trans (by rw [List.drop_length]; rfl)
      rw [hg2]
      simp only [if_true]
      obtain ⟨X, hX⟩ := hu'.perm
      refine W_tailS (T' := T') (Sub.ofPermR (R := Hg) List.perm_append_comm) ?_
      simp only [List.cons_append, List.nil_append]
      repeat (first | refine stepA ?_ | intro _)
      refine callT ?_; refine ⟨_, _, own_in { s with root := dst } how hn hX, _, cutT, ?_⟩
      rintro v H' ⟨a2, cap2, Hs2, rfl, how2, rfl⟩
      refine L_perm (H' := erB b5 0 :: (b4, .cells (spC sp0 none 0 0) 84) :: (b3, .cells (spC { s with root := dst } a n cap) 84) :: wkB b m dst a' n' cap' :: (memH m Mk ++ (T' ++ Hs2))) (by simp only [List.cons_append, List.nil_append, erB, spC, sp0]; exact permA) ?_
      simp only [List.cons_append, List.nil_append]
      repeat (first | refine stepA ?_ | intro _)
      refine retEA (lvCallA ?_)
      refine ⟨_, _, ends_sp m hwf b b5 0 dst (hu'.more Hs2) hn', _, cutT, ?_⟩
      rintro v H' rfl
      refine ⟨_, List.perm_append_comm, ?_⟩
      simp only [List.cons_append, List.nil_append]
      have he : endsM 0 Mk dst us = Mk := by rw [endsM, if_pos rfl]
      rw [he]
      refine lvNil ?_
      exact ⟨_, .inr ⟨trivial, a2, cap2, Hs2, rfl, how2, rfl⟩, subT⟩
end
end Go.Proofs.YtcpfmjlceoiofaaGreatDoor

/-
  The walk's own small calculus, twenty-third part: a slice of two structs of two cells that is written out.
-/
namespace Go.Proofs.YtcpfmjlceoiofaaGreatDoor
open Go.RowKit
section rules
variable {X : Cx} {Q : PostT} {l : St} {ds : List Deferred} {H : Hp} {ops : Array Oper} {rest : List Oper}
variable {d ty : Nat} {pos : String} {after : Array Edge}
theorem L_buildSlTwo {x y : Operand} {t e : Nat} {z0 z1 a0 a1 b0 b1 : Value} [T : TySl X.P t e 2] [Z : TyZ X.P e [z0, z1]] (hlt : Nat.blt d X.n = true) (hx : ev l x = some (.agg [a0, a1].toArray)) (hy : ev l y = some (.agg [b0, b1].toArray))
    (h : ∀ b, L X ops rest Q ((d, .slice (some ⟨b, 0, none⟩) 2 2) :: l) ds ((b, .cells [a0, a1, b0, b1] e) :: H)) :
    L X ops ({ dst := some d, op := .buildSlice t 2 #[(0, x), (1, y)], type := ty, pos, after, guard := none } :: rest) Q l ds H :=
  L_val rfl rfl hlt (fun _ e => by cases e) fun ρ hρ w hw => by
    obtain ⟨u, hz1, hz2⟩ : ∃ u, (zeroValue e).run X.P w = .ok u w ∧ u.cells = [z0, z1].toArray := by
      have hz := Z.zero
      cases hq : X.P.info? e with
      | none => simp [hq] at hz
      | some i =>
        cases hi : i.zero with
        | none => simp [hq, hi] at hz
        | some u => simp [hq, hi] at hz; exact ⟨u, by simp [zeroValue, typeInfo, hq, hi], hz⟩
    have ez : ((Array.range (2 * 2)).map ([z0, z1].toArray[· % [z0, z1].toArray.size]!)) = [z0, z1, z0, z1].toArray := by
      apply Array.ext'
      rw [Array.toList_map, Array.toList_range, show List.range (2 * 2) = [0, 1, 2, 3] from rfl]
      simp
    have hfill : Instr.fill (fun i => some (i * 2, 2)) [z0, z1, z0, z1].toArray [(0, .agg [a0, a1].toArray), (1, .agg [b0, b1].toArray)] = some [a0, a1, b0, b1].toArray := by
      have e1 : Instr.fill (fun i => some (i * 2, 2)) [z0, z1, z0, z1].toArray [(0, .agg [a0, a1].toArray), (1, .agg [b0, b1].toArray)] = Instr.fill (#[(0, 2), (2, 2)][·]?) [z0, z1, z0, z1].toArray [(0, .agg [a0, a1].toArray), (1, .agg [b0, b1].toArray)] := by
        simp [Instr.fill]
      rw [e1, fill_L [(0, 2), (2, 2)] _ _ rfl]
      rfl
    refine ⟨_, _, _, ?_, hw.alloc (.cells [a0, a1, b0, b1] e), h _⟩
    have hm : (#[((0 : Nat), x), (1, y)].map fun (p : Nat × Operand) => (p.1, ρ p.2)).toList = [(0, .agg [a0, a1].toArray), (1, .agg [b0, b1].toArray)] := by simp [hρ x _ hx, hρ y _ hy]
    simp only [execOp, Instr.buildSlice, Sem.run_bind, run_underlying T.und w, Result.andThen_ok, T.runSize w]
    have a1 : ¬ (2 * 2 > 2 ^ 24) := by omega
    have a2 : ¬ (2 * 2 = 0) := by omega
    simp only [a1, a2, if_false, Sem.run_bind, Sem.run_pure, Result.andThen_ok, hz1, hz2, ez, hm, hfill, newRow, run_newObj_alloc, Blk.obj]
end rules
end Go.Proofs.YtcpfmjlceoiofaaGreatDoor

/-
  Calls: within, areShort, Right; the document's answer: short, Right.
-/
namespace Go.Proofs.YtcpfmjlceoiofaaGreatDoor
open Go.RowKit
attribute [local irreducible] W L QL PureOp thenQ blockQ retQ Spec IterOk YSpec roundQ scopeQ noGoQ
attribute [local irreducible] AS ASi
set_option maxHeartbeats 1600000
abbrev elI (v : Int) : Value := .int .i64 v
structure CallV where
  no : Int
  f : Int
  a : Int
  b : Int
  c : Int
  d : Int
  s : List UInt8
abbrev CallV.cells (x : CallV) : List Value := [.int .i64 x.no, .int .i64 x.f, .int .i64 x.a, .int .i64 x.b, .int .i64 x.c, .int .i64 x.d, str x.s]
abbrev Sh (n : Int) : Prop := -32768 ≤ n ∧ n ≤ 32767
structure RightP (x : CallV) : Prop where
  no : 1 ≤ x.no ∧ x.no ≤ 25
  f : 0 ≤ x.f ∧ x.f ≤ 255
  a : Sh x.a
  b : Sh x.b
  c : Sh x.c
  d : Sh x.d
  s : x.s.length ≤ 600
theorem rightP_iff (x : CallV) : RightP x ↔ (1 ≤ x.no ∧ x.no ≤ 25) ∧ (0 ≤ x.f ∧ x.f ≤ 255) ∧ Sh x.a ∧ Sh x.b ∧ Sh x.c ∧ Sh x.d ∧ x.s.length ≤ 600 :=
  ⟨fun h => ⟨h.no, h.f, h.a, h.b, h.c, h.d, h.s⟩, fun ⟨h1, h2, h3, h4, h5, h6, h7⟩ => ⟨h1, h2, h3, h4, h5, h6, h7⟩⟩
instance (x : CallV) : Decidable (RightP x) := decidable_of_iff _ (rightP_iff x).symm
theorem withinT (least most : Int) (g n : Nat) (E : TypeId) (xs : List Int) (hl : xs.length = n) (hn : n ≤ 1000) (hall : ∀ (k : Nat) (x : Int), xs[k]? = some x → least ≤ x ∧ x ≤ most) :
    Spec Tryz.prog 44 [.int .i64 least, .int .i64 most, .slice (some ⟨g, 0, none⟩) n n] [(g, .cells (xs.map elI) E)] fun v H' => v = .bool true ∧ H' = [(g, .cells (xs.map elI) E)] := by
  refine Spec_body Tryz.func44 rfl Tryz.ntmps44 rfl (fun w0 => ?_)
  repeat (first | refine stepA ?_ | intro _)
  refine W_loop (fun k : Nat => [(0, .int .i64 least), (1, .int .i64 most), (9, .slice (some ⟨g, 0, none⟩) n n), (10, .int .i64 (n : Int)), (11, .int .i64 (k : Int))]) (fun _ => [(g, .cells (xs.map elI) E)]) (fun k => k ≤ n) (fun k => n - k) 0 (by omega) sublA subA ?_
  intro k hk
  by_cases hlt : k < n
  · obtain ⟨x, hx⟩ : ∃ x, xs[k]? = some x := ⟨xs[k]'(by omega), by simp [hl, hlt]⟩
    have e1 : (xs.map elI)[k]? = some (.int .i64 x) := by simp [hx]
    have hb := hall k x hx
    repeat (first | refine stepA ?_ | intro _)
    exact ⟨rfl, k + 1, by omega, by omega, sublA, subA⟩
  · obtain rfl : k = n := by omega
    repeat (first | refine stepA ?_ | intro _)
    (first | refine retA ?_ | refine retB ?_); exact ⟨_, ⟨rfl, rfl⟩, subA⟩
theorem withinF (least most : Int) (g n : Nat) (E : TypeId) (xs : List Int) (hl : xs.length = n) (hn : n ≤ 1000) (hex : ∃ (k : Nat) (x : Int), xs[k]? = some x ∧ ¬ (least ≤ x ∧ x ≤ most)) :
    Spec Tryz.prog 44 [.int .i64 least, .int .i64 most, .slice (some ⟨g, 0, none⟩) n n] [(g, .cells (xs.map elI) E)] fun v H' => v = .bool false ∧ H' = [(g, .cells (xs.map elI) E)] := by
  obtain ⟨k0, x0, hx0, hbad⟩ := hex
  have hk0 : k0 < n := by have := (List.getElem?_eq_some_iff.1 hx0).1; omega
  refine Spec_body Tryz.func44 rfl Tryz.ntmps44 rfl (fun w0 => ?_)
  repeat (first | refine stepA ?_ | intro _)
  refine W_loop (fun k : Nat => [(0, .int .i64 least), (1, .int .i64 most), (9, .slice (some ⟨g, 0, none⟩) n n), (10, .int .i64 (n : Int)), (11, .int .i64 (k : Int))]) (fun _ => [(g, .cells (xs.map elI) E)]) (fun k => k ≤ k0) (fun k => n - k) 0 (by omega) sublA subA ?_
  intro k hk
  obtain ⟨x, hx⟩ : ∃ x, xs[k]? = some x := ⟨xs[k]'(by omega), List.getElem?_eq_getElem (by omega)⟩
  have e1 : (xs.map elI)[k]? = some (.int .i64 x) := by simp [hx]
  by_cases h1 : x < least
  · repeat (first | refine stepA ?_ | intro _)
    (first | refine retA ?_ | refine retB ?_); exact ⟨_, ⟨rfl, rfl⟩, subA⟩
  by_cases h2 : x > most
  · repeat (first | refine stepA ?_ | intro _)
    (first | refine retA ?_ | refine retB ?_); exact ⟨_, ⟨rfl, rfl⟩, subA⟩
  have hne : k ≠ k0 := fun e => by
    subst e
    rw [hx0] at hx
    cases hx
    omega
  repeat (first | refine stepA ?_ | intro _)
  exact ⟨rfl, k + 1, by omega, by omega, sublA, subA⟩
theorem within1T (least most x : Int) (g : Nat) (E : TypeId) (h : least ≤ x ∧ x ≤ most) :
    Spec Tryz.prog 44 [.int .i64 least, .int .i64 most, .slice (some ⟨g, 0, none⟩) 1 1] [(g, .cells [.int .i64 x] E)] fun v H' => v = .bool true ∧ H' = [(g, .cells [.int .i64 x] E)] :=
  withinT least most g 1 E [x] rfl (by omega) (fun k y hk => by cases k <;> simp at hk; subst hk; exact h)
theorem within1F (least most x : Int) (g : Nat) (E : TypeId) (h : ¬ (least ≤ x ∧ x ≤ most)) :
    Spec Tryz.prog 44 [.int .i64 least, .int .i64 most, .slice (some ⟨g, 0, none⟩) 1 1] [(g, .cells [.int .i64 x] E)] fun v H' => v = .bool false ∧ H' = [(g, .cells [.int .i64 x] E)] :=
  withinF least most g 1 E [x] rfl (by omega) ⟨0, x, rfl, h⟩
theorem areShortT (g n : Nat) (E : TypeId) (xs : List Int) (hl : xs.length = n) (hn : n ≤ 1000) (hall : ∀ (k : Nat) (x : Int), xs[k]? = some x → Sh x) :
    Spec Tryz.prog 45 [.slice (some ⟨g, 0, none⟩) n n] [(g, .cells (xs.map elI) E)] fun v H' => v = .bool true ∧ H' = [(g, .cells (xs.map elI) E)] := by
  refine Spec_body Tryz.func45 rfl Tryz.ntmps45 rfl (fun w0 => ?_)
  repeat (first | refine stepA ?_ | intro _)
  refine callA ?_; refine ⟨_, _, withinT (-32768) 32767 g n E xs hl hn hall, _, cutA, ?_⟩
  rintro v H' ⟨rfl, rfl⟩
  repeat (first | refine stepA ?_ | intro _)
  (first | refine retA ?_ | refine retB ?_); exact ⟨_, ⟨rfl, rfl⟩, subA⟩
theorem areShortF (g n : Nat) (E : TypeId) (xs : List Int) (hl : xs.length = n) (hn : n ≤ 1000) (hex : ∃ (k : Nat) (x : Int), xs[k]? = some x ∧ ¬ Sh x) :
    Spec Tryz.prog 45 [.slice (some ⟨g, 0, none⟩) n n] [(g, .cells (xs.map elI) E)] fun v H' => v = .bool false ∧ H' = [(g, .cells (xs.map elI) E)] := by
  refine Spec_body Tryz.func45 rfl Tryz.ntmps45 rfl (fun w0 => ?_)
  repeat (first | refine stepA ?_ | intro _)
  refine callA ?_; refine ⟨_, _, withinF (-32768) 32767 g n E xs hl hn hex, _, cutA, ?_⟩
  rintro v H' ⟨rfl, rfl⟩
  repeat (first | refine stepA ?_ | intro _)
  (first | refine retA ?_ | refine retB ?_); exact ⟨_, ⟨rfl, rfl⟩, subA⟩
theorem areShort4T (g : Nat) (E : TypeId) (a b c d : Int) (h : Sh a ∧ Sh b ∧ Sh c ∧ Sh d) :
    Spec Tryz.prog 45 [.slice (some ⟨g, 0, none⟩) 4 4] [(g, .cells [.int .i64 a, .int .i64 b, .int .i64 c, .int .i64 d] E)] fun v H' => v = .bool true ∧ H' = [(g, .cells [.int .i64 a, .int .i64 b, .int .i64 c, .int .i64 d] E)] :=
  areShortT g 4 E [a, b, c, d] rfl (by omega) (fun k y hk => by
    match k, hk with
    | 0, hk => simp at hk; subst hk; exact h.1
    | 1, hk => simp at hk; subst hk; exact h.2.1
    | 2, hk => simp at hk; subst hk; exact h.2.2.1
    | 3, hk => simp at hk; subst hk; exact h.2.2.2
    | k + 4, hk => simp at hk)
theorem areShort4F (g : Nat) (E : TypeId) (a b c d : Int) (h : ¬ (Sh a ∧ Sh b ∧ Sh c ∧ Sh d)) :
    Spec Tryz.prog 45 [.slice (some ⟨g, 0, none⟩) 4 4] [(g, .cells [.int .i64 a, .int .i64 b, .int .i64 c, .int .i64 d] E)] fun v H' => v = .bool false ∧ H' = [(g, .cells [.int .i64 a, .int .i64 b, .int .i64 c, .int .i64 d] E)] :=
  areShortF g 4 E [a, b, c, d] rfl (by omega) (by
    by_cases ha : Sh a
    · by_cases hb : Sh b
      · by_cases hc : Sh c
        · exact ⟨3, d, rfl, fun hd => h ⟨ha, hb, hc, hd⟩⟩
        · exact ⟨2, c, rfl, hc⟩
      · exact ⟨1, b, rfl, hb⟩
    · exact ⟨0, a, rfl, ha⟩)
theorem right_spec (x : CallV) : Spec Tryz.prog 22 [.agg x.cells.toArray] [] fun v H' => v = .bool (decide (RightP x)) ∧ H' = [] := by
  refine Spec_body Tryz.func22 rfl Tryz.ntmps22 rfl (fun w0 => ?_)
  by_cases h1 : 1 ≤ x.no ∧ x.no ≤ 25
  · by_cases h2 : 0 ≤ x.f ∧ x.f ≤ 255
    · by_cases h3 : Sh x.a ∧ Sh x.b ∧ Sh x.c ∧ Sh x.d
      · repeat (first | refine stepA ?_ | intro _)
        rename_i g1
        refine callA ?_; refine ⟨_, _, within1T 1 25 x.no g1 _ h1, _, cutA, ?_⟩
        rintro v H' ⟨rfl, rfl⟩
        repeat (first | refine stepA ?_ | intro _)
        rename_i g2
        refine callA ?_; refine ⟨_, _, within1T 0 255 x.f g2 _ h2, _, cutA, ?_⟩
        rintro v H' ⟨rfl, rfl⟩
        repeat (first | refine stepA ?_ | intro _)
        rename_i g3
        refine callA ?_; refine ⟨_, _, areShort4T g3 _ x.a x.b x.c x.d h3, _, cutA, ?_⟩
        rintro v H' ⟨rfl, rfl⟩
        repeat (first | refine stepA ?_ | intro _)
        (first | refine retA ?_ | refine retB ?_); exact ⟨_, ⟨by simp only [resVal, Bool.and_true, Bool.true_and]; congr 1; rw [Bool.eq_iff_iff]; simp only [decide_eq_true_eq, rightP_iff]; omega, rfl⟩, subA⟩
      · repeat (first | refine stepA ?_ | intro _)
        rename_i g1
        refine callA ?_; refine ⟨_, _, within1T 1 25 x.no g1 _ h1, _, cutA, ?_⟩
        rintro v H' ⟨rfl, rfl⟩
        repeat (first | refine stepA ?_ | intro _)
        rename_i g2
        refine callA ?_; refine ⟨_, _, within1T 0 255 x.f g2 _ h2, _, cutA, ?_⟩
        rintro v H' ⟨rfl, rfl⟩
        repeat (first | refine stepA ?_ | intro _)
        rename_i g3
        refine callA ?_; refine ⟨_, _, areShort4F g3 _ x.a x.b x.c x.d h3, _, cutA, ?_⟩
        rintro v H' ⟨rfl, rfl⟩
        repeat (first | refine stepA ?_ | intro _)
        (first | refine retA ?_ | refine retB ?_); exact ⟨_, ⟨by rw [decide_eq_false (fun h : RightP x => h3 ⟨h.a, h.b, h.c, h.d⟩)]; rfl, rfl⟩, subA⟩
    · repeat (first | refine stepA ?_ | intro _)
      rename_i g1
      refine callA ?_; refine ⟨_, _, within1T 1 25 x.no g1 _ h1, _, cutA, ?_⟩
      rintro v H' ⟨rfl, rfl⟩
      repeat (first | refine stepA ?_ | intro _)
      rename_i g2
      refine callA ?_; refine ⟨_, _, within1F 0 255 x.f g2 _ h2, _, cutA, ?_⟩
      rintro v H' ⟨rfl, rfl⟩
      repeat (first | refine stepA ?_ | intro _)
      (first | refine retA ?_ | refine retB ?_); exact ⟨_, ⟨by rw [decide_eq_false (fun h : RightP x => h2 h.f)]; rfl, rfl⟩, subA⟩
  · repeat (first | refine stepA ?_ | intro _)
    rename_i g1
    refine callA ?_; refine ⟨_, _, within1F 1 25 x.no g1 _ h1, _, cutA, ?_⟩
    rintro v H' ⟨rfl, rfl⟩
    repeat (first | refine stepA ?_ | intro _)
    (first | refine retA ?_ | refine retB ?_); exact ⟨_, ⟨by rw [decide_eq_false (fun h : RightP x => h1 h.no)]; rfl, rfl⟩, subA⟩
end Go.Proofs.YtcpfmjlceoiofaaGreatDoor

/-
  The walk's own small calculus, 27th part: a drawn region as a graph of states.
-/
namespace Go.Proofs.YtcpfmjlceoiofaaGreatDoor
open Go.RowKit
section rules
variable {X : Cx} {ds : List Deferred} {Hs : Hp} {ops : Array Oper} {K : St → List Deferred → Hp → Prop} {nk : List Nat}
theorem AS_st {S α : Type} (lst : S → Array Bool) (rk : S → Nat) (nx : S → List (Nat × S)) (ok : S → α → Prop) (sl : S → α → St) (sh : S → α → Hp) (hro : X.ro = none)
    (hr : ∀ s, nx s ≠ [] → (Region.ready .any ops (lst s) == (nx s).map (·.1)) = true)
    (hl : ∀ s, ∀ p ∈ nx s, (lst s).setIfInBounds p.1 true = lst p.2 ∧ rk s = rk p.2 + 1)
    (step : ∀ s, ∀ p ∈ nx s, ∀ x, ok s x → ∀ KK : St → List Deferred → Hp → Prop, (∀ y l' H', ok p.2 y → Subl (sl p.2 y) l' → Sub (sh p.2 y) H' → KK l' ds H') →
      ∃ o, ops[p.1]? = some o ∧ L X ops [o] (fun e l' ds' H' => e = .normal ∧ KeepsH nk p.1 Hs H' ∧ KK l' ds' H') (sl s x) ds (sh s x))
    (fin : ∀ s, nx s = [] → ∀ x, ok s x → AS X ops K Hs nk (rk s) (lst s) (sl s x) ds (sh s x)) :
    ∀ n s x l H, rk s = n → ok s x → Subl (sl s x) l → Sub (sh s x) H → AS X ops K Hs nk n (lst s) l ds H := by
  intro n
  induction n with
  | zero =>
    intro s x l H hn hok hsl hsh
    have h0 : nx s = [] := by
      cases h : nx s with
      | nil => rfl
      | cons p ps =>
        have := (hl s p (by rw [h]; simp)).2
        omega
    have := fin s h0 x hok
    rw [hn] at this
    exact fun a w ha hw => this a w (ha.weak hsl.get) (hw.sub hsh)
  | succ m ih =>
    intro s x l H hn hok hsl hsh
    by_cases h0 : nx s = []
    · have := fin s h0 x hok
      rw [hn] at this
      exact fun a w ha hw => this a w (ha.weak hsl.get) (hw.sub hsh)
    · refine AS_all ((nx s).map (·.1)) hro (hr s h0) (by simpa using h0) ?_
      intro i hi
      obtain ⟨p, hp, rfl⟩ := List.mem_map.1 hi
      obtain ⟨h1, h2⟩ := hl s p hp
      obtain ⟨o, ho, hL⟩ := step s p hp x hok (AS X ops K Hs nk m ((lst s).setIfInBounds p.1 true)) (fun y l' H' hy q1 q2 => by
        rw [h1]
        exact ih p.2 y l' H' (by omega) hy q1 q2)
      exact ⟨o, ho, L_weakl hsl (L_weakh hsh hL)⟩
end rules
end Go.Proofs.YtcpfmjlceoiofaaGreatDoor
