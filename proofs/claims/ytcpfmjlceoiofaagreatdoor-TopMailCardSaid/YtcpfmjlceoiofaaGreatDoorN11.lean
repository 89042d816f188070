/-
  Spaces: Exec, first part: what is filled.
-/
import Derived.Test.YtcpfmjlceoiofaaGreatDoorN10
import Derived.Test.YtcpfmjlceoiofaaGreatDoorN09
set_option linter.unusedSimpArgs false
set_option linter.unusedVariables false
set_option linter.unusedSectionVars false
namespace Go.Proofs.YtcpfmjlceoiofaaGreatDoor
open Go.RowKit
attribute [local irreducible] W L QL PureOp thenQ blockQ retQ Spec IterOk YSpec roundQ scopeQ noGoQ
attribute [local irreducible] AS ASi IterOkC retD retE roundY
set_option maxHeartbeats 12800000
set_option maxRecDepth 4000
abbrev Item := Nat × Nat × List UInt8
def itL : Nat → Nat → Nat → List UInt8 → List Item
  | 0, _, _, _ => []
  | k + 1, p, f, s => if s = [] then [] else (p, f, s.take 64) :: itL k (p + 1) f (s.drop 64)
theorem itL_fuel : ∀ (k j p f : Nat) (s : List UInt8), s.length ≤ k → s.length ≤ j → itL k p f s = itL j p f s
  | 0, 0, _, _, _, _, _ => rfl
  | 0, j + 1, p, f, s, h, _ => by
    have : s = [] := List.length_eq_zero_iff.1 (by omega)
    simp [itL, this]
  | k + 1, 0, p, f, s, _, h => by
    have : s = [] := List.length_eq_zero_iff.1 (by omega)
    simp [itL, this]
  | k + 1, j + 1, p, f, s, h1, h2 => by
    simp only [itL]
    by_cases hs : s = []
    · rw [if_pos hs, if_pos hs]
    · have hp := List.length_pos_iff.2 hs
      rw [if_neg hs, if_neg hs, itL_fuel k j (p + 1) f (s.drop 64) (by rw [List.length_drop]; omega) (by rw [List.length_drop]; omega)]
/-- the pages of some bytes -/
def itS (p f : Nat) (s : List UInt8) : List Item := itL s.length p f s
theorem itS_nil (p f : Nat) : itS p f [] = [] := rfl
theorem itS_cons (p f : Nat) {s : List UInt8} (h : s ≠ []) : itS p f s = (p, f, s.take 64) :: itS (p + 1) f (s.drop 64) := by
  have hp := List.length_pos_iff.2 h
  obtain ⟨n, hn⟩ : ∃ n, s.length = n + 1 := ⟨s.length - 1, by omega⟩
  rw [itS, hn, itL, if_neg h, itS, itL_fuel n (s.drop 64).length (p + 1) f (s.drop 64) (by rw [List.length_drop]; omega) (Nat.le_refl _)]
def fillG (M : List Frm) (root : Int) (us : List (Option Nat)) : List Item → Int × List Frm × List (Option Nat)
  | [] => (0, M, us)
  | x :: l => let r := filledM M root us x.1 x.2.1 x.2.2; if r.1 = 0 then fillG r.2.1 root r.2.2 l else r
theorem fillG_go {M : List Frm} {root : Int} {us : List (Option Nat)} {x : Item} {l : List Item} (h : (filledM M root us x.1 x.2.1 x.2.2).1 = 0) :
    fillG M root us (x :: l) = fillG (filledM M root us x.1 x.2.1 x.2.2).2.1 root (filledM M root us x.1 x.2.1 x.2.2).2.2 l := by
  rw [fillG]
  simp only [h, if_true]
theorem fillG_no {M : List Frm} {root : Int} {us : List (Option Nat)} {x : Item} {l : List Item} (h : (filledM M root us x.1 x.2.1 x.2.2).1 ≠ 0) :
    fillG M root us (x :: l) = filledM M root us x.1 x.2.1 x.2.2 := by
  rw [fillG]
  simp only [h, if_false]
/-- what an image is filled with: text, data, stack -/
def itemsE (text data : List UInt8) : List Item := itS 0 1 text ++ (itS (spanN text.length) 3 data ++ [(254, 3, []), (255, 3, [])])
/-- a space of text and data is made: the error, its root, the memory -/
def execM (M : List Frm) (text data : List UInt8) : Int × Int × List Frm :=
  if leftM M = 0 then (11, 0, M) else
  let r := fillG (allocS M).2.2 (aId M) [none] (itemsE text data)
  if r.1 = 0 then (0, aId M, r.2.1) else (r.1, 0, undoAll r.2.1 (aId M) r.2.2)
structure XSt where
  k : Nat
  M : List Frm
  us : List (Option Nat)
  a : Option Addr
  n : Nat
  cap : Nat
  T : Hp
  page : Nat
  Ds : List Nat
def pageK (text data : List UInt8) : Nat → Nat
  | 0 => 0
  | 1 => spanN text.length
  | _ => spanN text.length + spanN data.length
def restK (text data : List UInt8) : Nat → List Item
  | 0 => itemsE text data
  | 1 => itS (spanN text.length) 3 data ++ [(254, 3, []), (255, 3, [])]
  | _ => [(254, 3, []), (255, 3, [])]
theorem UOk.split {b : Nat} {m : MemP} {root : Int} {a : Option Addr} {n cap : Nat} {us : List (Option Nat)} {Fr Hu : Hp} (h : UOk Fr b m root a n cap us Hu) : ∃ X, UOk [] b m root a n cap us X ∧ Hu.Perm (X ++ Fr) := by
  obtain ⟨U, hU, hl, hps, Ha, how, hp1⟩ := h
  exact ⟨Ha ++ U.flatMap (Ui.blks b m root), ⟨U, hU, hl, hps, Ha, how, by rw [List.append_nil]⟩, by rw [List.append_assoc]; exact hp1⟩
theorem wrap_u8 (c : UInt8) : IntKind.i64.wrap (c.toNat : Int) = (c.toNat : Int) := by
  have := c.toNat_lt
  exact wrap_i64 (by omega)
abbrev coreX (m : MemP) (b4 b5 b6 b9 b10 b12 g79 b : Nat) (dst : Int) (text data src : List UInt8) (fl : Int) (mk : Hp) (e : Int) (x : XSt) : Hp :=
  erB b5 e :: (b4, .cells (spC sp0 none 0 0) 84) :: (b6, .cells [wkP b] 141) :: (b9, .cells (spC ⟨dst, spanN text.length, spanN data.length, 0, []⟩ none 0 0) 84) :: kB b10 x.page :: (b12, .cells [str src, .int .i64 fl] 150) :: (g79, .cells [str text, .int .i64 1, str data, .int .i64 3] 150) :: wkB b m dst x.a x.n x.cap :: (mk ++ (memH m x.M ++ x.T))
theorem leavesOk : FnOk Tryz.prog 179 := inferInstance
section
variable (m : MemP) {M : List Frm}
theorem exec_ok (hM : WfM M) (c t d : UInt8) (hc : c.toNat = 88) (text data : List UInt8) (ht : text.length = t.toNat) (hd : data.length = d.toNat) : Spec Tryz.prog 32 [m.ptr, str (c :: t :: d :: (text ++ data))] (memH m M) fun v H' =>
    ((execM M text data).1 ≠ 0 ∧ v = .tuple #[spV sp0 none 0 0, .int .i64 (execM M text data).1] ∧ H' = memH m (execM M text data).2.2) ∨
    ((execM M text data).1 = 0 ∧ v = .tuple #[spV ⟨(execM M text data).2.1, spanN text.length, spanN data.length, 0, []⟩ none 0 0, .int .i64 0] ∧ H' = memH m (execM M text data).2.2) := by
  have htl : t.toNat < 256 := t.toNat_lt
  have hdl : d.toNat < 256 := d.toNat_lt
  have hlen : (c :: t :: d :: (text ++ data)).length = 3 + t.toNat + d.toNat := by simp only [List.length_cons, List.length_append]; omega
  refine Spec_bodyE Tryz.func32 rfl Tryz.ntmps32 rfl (fun w0 => ?_)
  repeat (first | refine stepA ?_ | intro _)
  rename_i b4 b5
  rw [wrap_u8 t]
  repeat (first | refine stepA ?_ | intro _)
  rw [wrap_u8 d]
  repeat (first | refine stepA ?_ | intro _)
  refine callT ?_; refine ⟨_, _, begun_sp m hM, _, cutT, ?_⟩
  rintro v H' ⟨b, au, nu, cu, Hu, rfl, hu, rfl⟩
  simp only [List.cons_append, List.nil_append]
  by_cases h0 : leftM M = 0
  · have ea := allocS_no h0
    have e : execM M text data = (11, 0, M) := by rw [execM, if_pos h0]
    rw [e]
    have a2 : (allocS M).2.1 = 11 := by rw [ea]
    have a3 : (allocS M).2.2 = M := by rw [ea]
    rw [a2, a3]
    repeat (first | refine stepA ?_ | intro _)
    refine W_any [erB b5 11] [3] rfl ?_
    refine AS_at 0 (by decide +kernel) ?_; refine takeA ?_
    refine AS_at 1 (by decide +kernel) ?_; refine takeA ?_
    refine AS_one 2 rfl (by decide +kernel) rfl ?_
    refine stepA ?_
    refine L_nil ?_; refine ⟨rfl, (by first | exact KeepsH.brk (by decide +kernel) | exact KeepsH.sub subA | exact KeepsH.sub subT), ?_⟩
    refine AS_one 3 rfl (by decide +kernel) rfl ?_
    refine stepA ?_
    refine L_nil ?_; refine ⟨rfl, (by first | exact KeepsH.brk (by decide +kernel) | exact KeepsH.sub subA | exact KeepsH.sub subT), ?_⟩
    refine AS_done (by decide +kernel) ?_
    repeat (first | refine stepA ?_ | intro _)
    refine retEA (lvNil ?_)
    exact ⟨_, .inl ⟨by simp, rfl, rfl⟩, subT⟩
  · obtain ⟨ea, _⟩ := allocS_ok (M := M) (by omega)
    obtain ⟨M1, hM1⟩ : ∃ M1, M1 = (allocS M).2.2 := ⟨_, rfl⟩
    obtain ⟨dst, hdst⟩ : ∃ dst : Int, dst = (aId M : Int) := ⟨_, rfl⟩
    have hw1 : WfM M1 := by rw [hM1]; exact allocS_wf hM
    have e1 : (allocS M).1 = dst := by rw [ea, hdst]
    have e2 : (allocS M).2.1 = 0 := by rw [ea]
    have e : execM M text data = if (fillG M1 dst [none] (itemsE text data)).1 = 0 then (0, dst, (fillG M1 dst [none] (itemsE text data)).2.1) else ((fillG M1 dst [none] (itemsE text data)).1, 0, undoAll (fillG M1 dst [none] (itemsE text data)).2.1 dst (fillG M1 dst [none] (itemsE text data)).2.2) := by
      rw [execM, if_neg h0, hdst, hM1]
    rw [e]
    clear e
    rw [e1] at hu
    rw [e1, e2, ← hM1]
    repeat (first | refine stepA ?_ | intro _)
    rename_i b6
    apply L_deferA
    · exact rfl
    · exact evA
    · exact rfl
    have et : ((c :: t :: d :: (text ++ data)).drop 3).take (3 + t.toNat - 3) = text := by
      rw [show (c :: t :: d :: (text ++ data)).drop 3 = text ++ data from rfl, Nat.add_sub_cancel_left, ← ht, List.take_left]
    have ed : ((c :: t :: d :: (text ++ data)).drop (3 + t.toNat)).take ((c :: t :: d :: (text ++ data)).length - (3 + t.toNat)) = data := by
      rw [← List.drop_drop, show (c :: t :: d :: (text ++ data)).drop 3 = text ++ data from rfl, ← ht, List.drop_left, List.take_of_length_le (by omega)]
    repeat (first | refine stepA ?_ | intro _)
    rw [wrap_u8 t]
    repeat (first | refine stepA ?_ | intro _)
    (first | (apply L_P; (· exact rfl); (· exact rfl)) | (apply QL_P; (· exact rfl))); (· (apply P_slStr; (· exact evA); (· exact Bound.of (j := 3) rfl (by rfl)); (· exact Bound.of (j := 3 + t.toNat) rfl (by omega)); (· omega)))
    rw [et]
    repeat (first | refine stepA ?_ | intro _)
    rw [wrap_u8 t]
    repeat (first | refine stepA ?_ | intro _)
    (first | (apply L_P; (· exact rfl); (· exact rfl)) | (apply QL_P; (· exact rfl))); (· (apply P_slStr; (· exact evA); (· exact Bound.of (j := 3 + t.toNat) rfl (by omega)); (· exact Bound.none); (· omega)))
    rw [ed]
    repeat (first | refine stepA ?_ | intro _)
    refine W_mono (Q := fun e l' ds' H' => e = .normal ∧ ds' = [{ target := .fn (.func 83) ([] : List Value).toArray, args := [wkP b, .pointer (some ⟨b5, 0, none⟩)].toArray }] ∧ ∃ b9, Subl [(0, m.ptr), (4, .pointer (some ⟨b4, 0, none⟩)), (5, .pointer (some ⟨b5, 0, none⟩)), (6, .pointer (some ⟨b6, 0, none⟩)), (7, str text), (8, str data), (9, .pointer (some ⟨b9, 0, none⟩))] l' ∧
      Sub (erB b5 0 :: (b4, .cells (spC sp0 none 0 0) 84) :: (b6, .cells [wkP b] 141) :: (b9, .cells (spC ⟨dst, spanN text.length, spanN data.length, 0, []⟩ none 0 0) 84) :: wkB b m dst au nu cu :: (memH m M1 ++ Hu)) H') ?_ ?_
    · refine W_any [(b6, .cells [wkP b] 141), wkB b m dst au nu cu] [] rfl ?_
      refine AS_at 0 (by decide +kernel) ?_; refine takeA ?_
      refine AS_at 1 (by decide +kernel) ?_; refine takeA ?_
      refine AS_at 2 (by decide +kernel) ?_; refine takeA ?_
      refine AS_at 3 (by decide +kernel) ?_; refine takeA ?_
      refine AS_at 4 (by decide +kernel) ?_; refine takeA ?_
      refine AS_at 5 (by decide +kernel) ?_; refine takeA ?_
      refine AS_at 7 (by decide +kernel) ?_; refine takeA ?_
      refine AS_at 8 (by decide +kernel) ?_; refine takeA ?_
      refine AS_two 6 11 rfl (by decide +kernel) rfl rfl ?_ ?_
      · skip
        refine callA ?_; refine ⟨_, _, spans_sp text.length (by omega), _, cutA, ?_⟩
        rintro v H' ⟨rfl, rfl⟩
        simp only [List.cons_append, List.nil_append]
        refine L_nil ?_; refine ⟨rfl, (by first | exact KeepsH.brk (by decide +kernel) | exact KeepsH.sub subA | exact KeepsH.sub subT), ?_⟩
        refine AS_two 9 11 rfl (by decide +kernel) rfl rfl ?_ ?_
        · skip
          refine callA ?_; refine ⟨_, _, spans_sp data.length (by omega), _, cutA, ?_⟩
          rintro v H' ⟨rfl, rfl⟩
          simp only [List.cons_append, List.nil_append]
          refine L_nil ?_; refine ⟨rfl, (by first | exact KeepsH.brk (by decide +kernel) | exact KeepsH.sub subA | exact KeepsH.sub subT), ?_⟩
          refine AS_at 10 (by decide +kernel) ?_; refine takeA ?_
          refine AS_one 11 rfl (by decide +kernel) rfl ?_
          refine stepA ?_
          intro b9
          refine L_nil ?_; refine ⟨rfl, (by first | exact KeepsH.brk (by decide +kernel) | exact KeepsH.sub subA | exact KeepsH.sub subT), ?_⟩
          refine AS_one 12 rfl (by decide +kernel) rfl ?_
          refine stepA ?_
          refine L_nil ?_; refine ⟨rfl, (by first | exact KeepsH.brk (by decide +kernel) | exact KeepsH.sub subA | exact KeepsH.sub subT), ?_⟩
          refine AS_done (by decide +kernel) ?_
          exact ⟨trivial, rfl, b9, sublA, subT⟩
        · skip
          refine stepA ?_
          intro b9
          refine L_nil ?_; refine ⟨rfl, (by first | exact KeepsH.brk (by decide +kernel) | exact KeepsH.sub subA | exact KeepsH.sub subT), ?_⟩
          refine AS_one 9 rfl (by decide +kernel) rfl ?_
          refine callA ?_; refine ⟨_, _, spans_sp data.length (by omega), _, cutA, ?_⟩
          rintro v H' ⟨rfl, rfl⟩
          simp only [List.cons_append, List.nil_append]
          refine L_nil ?_; refine ⟨rfl, (by first | exact KeepsH.brk (by decide +kernel) | exact KeepsH.sub subA | exact KeepsH.sub subT), ?_⟩
          refine AS_at 10 (by decide +kernel) ?_; refine takeA ?_
          refine AS_one 12 rfl (by decide +kernel) rfl ?_
          refine stepA ?_
          refine L_nil ?_; refine ⟨rfl, (by first | exact KeepsH.brk (by decide +kernel) | exact KeepsH.sub subA | exact KeepsH.sub subT), ?_⟩
          refine AS_done (by decide +kernel) ?_
          exact ⟨trivial, rfl, b9, sublA, subT⟩
      · skip
        refine stepA ?_
        intro b9
        refine L_nil ?_; refine ⟨rfl, (by first | exact KeepsH.brk (by decide +kernel) | exact KeepsH.sub subA | exact KeepsH.sub subT), ?_⟩
        refine AS_one 6 rfl (by decide +kernel) rfl ?_
        refine callA ?_; refine ⟨_, _, spans_sp text.length (by omega), _, cutA, ?_⟩
        rintro v H' ⟨rfl, rfl⟩
        simp only [List.cons_append, List.nil_append]
        refine L_nil ?_; refine ⟨rfl, (by first | exact KeepsH.brk (by decide +kernel) | exact KeepsH.sub subA | exact KeepsH.sub subT), ?_⟩
        refine AS_one 9 rfl (by decide +kernel) rfl ?_
        refine callA ?_; refine ⟨_, _, spans_sp data.length (by omega), _, cutA, ?_⟩
        rintro v H' ⟨rfl, rfl⟩
        simp only [List.cons_append, List.nil_append]
        refine L_nil ?_; refine ⟨rfl, (by first | exact KeepsH.brk (by decide +kernel) | exact KeepsH.sub subA | exact KeepsH.sub subT), ?_⟩
        refine AS_at 10 (by decide +kernel) ?_; refine takeA ?_
        refine AS_one 12 rfl (by decide +kernel) rfl ?_
        refine stepA ?_
        refine L_nil ?_; refine ⟨rfl, (by first | exact KeepsH.brk (by decide +kernel) | exact KeepsH.sub subA | exact KeepsH.sub subT), ?_⟩
        refine AS_done (by decide +kernel) ?_
        exact ⟨trivial, rfl, b9, sublA, subT⟩
    rintro e l' ds' H' ⟨rfl, rfl, b9, hsl, hsh⟩
    refine thenQ_n ?_
    refine W_weak hsl hsh ?_
    clear hsl hsh
    simp only [List.cons_append, List.nil_append]
    repeat (first | refine stepA ?_ | intro _)
    rename_i b10
    apply L_buildSlTwo
    · exact rfl
    · exact evA
    · exact evA
    intro g79
    repeat (first | refine stepA ?_ | intro _)
    obtain ⟨dEnd, hdEnd⟩ : ∃ dEnd : Deferred, dEnd = { target := .fn (.func 83) ([] : List Value).toArray, args := [wkP b, .pointer (some ⟨b5, 0, none⟩)].toArray } := ⟨_, rfl⟩
    refine W_loopD (fun x : XSt => [(4, .pointer (some ⟨b4, 0, none⟩)), (5, .pointer (some ⟨b5, 0, none⟩)), (6, .pointer (some ⟨b6, 0, none⟩)), (9, .pointer (some ⟨b9, 0, none⟩)), (10, .pointer (some ⟨b10, 0, none⟩)), (79, .slice (some ⟨g79, 0, none⟩) 2 2), (80, .int .i64 2), (81, .int .i64 (x.k : Int))])
      (fun x => x.Ds.map (fun D => { target := .collected D, args := #[] }) ++ [dEnd])
      (fun x => x.Ds.map (fun D => (D, Blk.oth (.deferred (some [])))) ++ (erB b5 0 :: (b4, .cells (spC sp0 none 0 0) 84) :: (b6, .cells [wkP b] 141) :: (b9, .cells (spC ⟨dst, spanN text.length, spanN data.length, 0, []⟩ none 0 0) 84) :: kB b10 x.page :: (g79, .cells [str text, .int .i64 1, str data, .int .i64 3] 150) :: wkB b m dst x.a x.n x.cap :: (memH m x.M ++ x.T)))
      (fun x => (x.k ≤ 2 ∧ x.Ds.length = x.k ∧ x.page = pageK text data x.k) ∧ WfM x.M ∧ UOk [] b m dst x.a x.n x.cap x.us x.T ∧ x.us.length ≤ x.page + 1 ∧ fillG M1 dst [none] (itemsE text data) = fillG x.M dst x.us (restK text data x.k))
      (fun x => 2 - x.k) ⟨0, M1, [none], au, nu, cu, Hu, 0, []⟩ ⟨⟨Nat.zero_le _, rfl, rfl⟩, hw1, hu, Nat.le_refl _, rfl⟩ sublA (by rw [hdEnd]; rfl) subT ?_
    rintro ⟨k, Mk, us, a', n', cap', T', page, Ds⟩ ⟨⟨hk, hDs, hpage⟩, hwf, hu', hlen, hgo⟩
    simp only at hk hDs hpage hwf hu' hlen hgo ⊢
    have htl4 : spanN text.length ≤ 4 := by simp only [spanN]; omega
    have hdl4 : spanN data.length ≤ 4 := by simp only [spanN]; omega
    obtain rfl | rfl | rfl : k = 0 ∨ k = 1 ∨ k = 2 := by omega
    · obtain rfl := List.length_eq_zero_iff.1 hDs
      simp only [pageK, restK, itemsE] at hpage hgo
      simp only [List.map_nil, List.nil_append, List.cons_append]
      repeat (first | refine stepA ?_ | intro _)
      rename_i b12
      refine callA ?_; refine ⟨_, _, leaves_spec text, _, cutA, ?_⟩
      rintro v H' ⟨bs, rfl, rfl⟩
      simp only [List.cons_append, List.nil_append]
      repeat (first | refine stepA ?_ | intro _)
      refine W_rangeC rfl (ev_of rfl (by with_reducible rfl)) leavesOk (leaves_iter bs text (by omega)) (fun _ => rfl) (by simp)
        (fun s Hc => ∃ x : XSt, (x.page + spanN s.length = 0 + spanN (text).length ∧ WfM x.M ∧ UOk [] b m dst x.a x.n x.cap x.us x.T ∧ x.us.length ≤ x.page + 1 ∧ fillG M1 dst [none] (itemsE text data) = fillG x.M dst x.us (itS x.page 1 s ++ (itS (spanN text.length) 3 data ++ [(254, 3, []), (255, 3, [])]))) ∧ Hc = stB bs s :: coreX m b4 b5 b6 b9 b10 b12 g79 b dst text data text 1 [] 0 x)
        (fun s Hc => ∃ x : XSt, (x.page + spanN (s.drop 64).length = 0 + spanN (text).length ∧ WfM x.M ∧ UOk [] b m dst x.a x.n x.cap x.us x.T ∧ x.us.length ≤ x.page + 1 ∧ fillG M1 dst [none] (itemsE text data) = fillG x.M dst x.us (itS x.page 1 (s.drop 64) ++ (itS (spanN text.length) 3 data ++ [(254, 3, []), (255, 3, [])]))) ∧ Hc = stB bs s :: coreX m b4 b5 b6 b9 b10 b12 g79 b dst text data text 1 [] 0 x)
        (fun c Hc => c = .ret ∧ ∃ e x, (e ≠ 0 ∧ WfM x.M ∧ UOk [] b m dst x.a x.n x.cap x.us x.T ∧ x.n ≤ 1000 ∧ fillG M1 dst [none] (itemsE text data) = (e, x.M, x.us)) ∧ Hc = coreX m b4 b5 b6 b9 b10 b12 g79 b dst text data text 1 [] e x)
        (fun u v => ⟨by
          rintro s H ⟨Hc, ⟨x, _, rfl⟩, rfl⟩
          exact ⟨_, .cons (.there (.there .here)) .nil⟩, by
          rintro s H hs ⟨Hc, ⟨x, hx, rfl⟩, rfl⟩
          refine ⟨_, _, .cons (.there (.there .here)) .nil, ⟨_, ⟨x, hx, rfl⟩, rfl⟩, ?_⟩
          exact List.Perm.trans (List.Perm.swap _ _ _) (List.Perm.cons _ (List.Perm.swap _ _ _))⟩)
        ⟨_, ⟨⟨0, Mk, us, a', n', cap', T', page, []⟩, ⟨by rw [hpage], hwf, hu', hlen, by rw [hpage]; exact hgo⟩, rfl⟩, by simp only [coreX, List.cons_append, List.nil_append]; exact subT⟩ ?_ ?_ ?_
      · rintro y s Hc w1 ⟨x, ⟨h1, h2, h3, h4, h5⟩, rfl⟩ hs
        simp only [coreX, List.cons_append, List.nil_append]
        have hsl := List.length_pos_iff.2 hs
        have hsp : spanN (s.drop 64).length + 1 = spanN s.length := by simp only [spanN, List.length_drop]; omega
        have hsr : spanN (text).length ≤ 4 := by simp only [spanN]; omega
        have hp256 : x.page < 256 := by omega
        have hn9 : x.n ≤ 1000 := by rw [h3.len]; omega
        repeat (first | refine stepA ?_ | intro _)
        refine ⟨rfl, fun w2 => ?_⟩
        repeat (first | refine stepA ?_ | intro _)
        refine callT ?_; refine ⟨_, _, filled_sp m h2 b dst h3 hn9 x.page 1 hp256 (s.take 64), _, cutT, ?_⟩
        rintro v H' ⟨a2, n2, c2, T2, rfl, hu2, rfl⟩
        simp only [List.cons_append, List.nil_append]
        have hcons := itS_cons x.page 1 hs
        have hw2 := filledM_wf h2 dst x.us x.page 1 (s.take 64)
        have hl2 := filledM_len x.M dst x.us x.page 1 (s.take 64)
        by_cases hr : (filledM x.M dst x.us x.page 1 (s.take 64)).1 = 0
        · rw [hr]
          repeat (first | refine stepA ?_ | intro _)
          have ep : ((x.page : Nat) : Int) + 1 = ((x.page + 1 : Nat) : Int) := by omega
          rw [ep]
          repeat (first | refine stepA ?_ | intro _)
          refine roundQ_n ⟨⟨x.k, (filledM x.M dst x.us x.page 1 (s.take 64)).2.1, (filledM x.M dst x.us x.page 1 (s.take 64)).2.2, a2, n2, c2, T2, x.page + 1, []⟩, ⟨by simp only; omega, hw2, hu2, Nat.le_trans hl2 (Nat.add_le_add_right h4 1), ?_⟩, rfl⟩ subT
          rw [h5, hcons, List.cons_append, fillG_go hr]
        · repeat (first | refine stepA ?_ | intro _)
          refine W_any [erB b5 (filledM x.M dst x.us x.page 1 (s.take 64)).1] [3] rfl ?_
          refine AS_at 0 (by decide +kernel) ?_; refine takeA ?_
          refine AS_at 1 (by decide +kernel) ?_; refine takeA ?_
          refine AS_one 2 rfl (by decide +kernel) rfl ?_
          refine stepA ?_
          refine L_nil ?_; refine ⟨rfl, (by first | exact KeepsH.brk (by decide +kernel) | exact KeepsH.sub subA | exact KeepsH.sub subT), ?_⟩
          refine AS_one 3 rfl (by decide +kernel) rfl ?_
          refine stepA ?_
          refine L_nil ?_; refine ⟨rfl, (by first | exact KeepsH.brk (by decide +kernel) | exact KeepsH.sub subA | exact KeepsH.sub subT), ?_⟩
          refine AS_done (by decide +kernel) ?_
          repeat (first | refine stepA ?_ | intro _)
          have hn2 : n2 ≤ 1000 := by rw [hu2.len]; omega
          refine roundQ_r ⟨rfl, _, ⟨x.k, (filledM x.M dst x.us x.page 1 (s.take 64)).2.1, (filledM x.M dst x.us x.page 1 (s.take 64)).2.2, a2, n2, c2, T2, x.page, []⟩, ⟨hr, hw2, hu2, hn2, ?_⟩, rfl⟩ subT
          rw [h5, hcons, List.cons_append, fillG_no hr]
      · rintro D s Hc rfl ⟨x, ⟨h1, h2, h3, h4, h5⟩, rfl⟩
        simp only [coreX, List.cons_append, List.nil_append]
        repeat (first | refine stepA ?_ | intro _)
        have hz : spanN ([] : List UInt8).length = 0 := by decide
        refine ⟨⟨1, x.M, x.us, x.a, x.n, x.cap, x.T, x.page, [D]⟩, rfl, ⟨⟨by show 1 ≤ 2; omega, rfl, ?_⟩, h2, h3, h4, ?_⟩, by show 2 - 1 < _; omega, sublA, subT⟩
        · simp only [pageK]; omega
        · rw [h5, itS_nil]; rfl
      · rintro D c Hc ⟨rfl, e, x, ⟨he, h2, h3, h4, h5⟩, rfl⟩
        simp only [coreX, List.cons_append, List.nil_append]
        rw [h5, if_neg (show ¬ (e, x.M, x.us).1 = 0 from he)]
        repeat (first | refine stepA ?_ | intro _)
        subst hdEnd
        refine retEA (lvMark ?_)
        skip
        refine lvCallA ?_
        refine ⟨_, _, ends_sp m h2 b b5 e dst h3 h4, _, cutT, ?_⟩
        rintro v H' rfl
        refine ⟨_, List.perm_append_comm, ?_⟩
        try simp only [List.cons_append, List.nil_append, List.append_nil]
        have he2 : endsM e x.M dst x.us = undoAll x.M dst x.us := by rw [endsM, if_neg he]
        rw [he2]
        refine lvNil ?_
        exact ⟨_, .inl ⟨he, rfl, rfl⟩, subT⟩
    · obtain ⟨D1, rfl⟩ := List.length_eq_one_iff.1 hDs
      simp only [pageK, restK] at hpage hgo
      simp only [List.map_cons, List.map_nil, List.nil_append, List.cons_append]
      repeat (first | refine stepA ?_ | intro _)
      rename_i b12
      refine callA ?_; refine ⟨_, _, leaves_spec data, _, cutA, ?_⟩
      rintro v H' ⟨bs, rfl, rfl⟩
      simp only [List.cons_append, List.nil_append]
      repeat (first | refine stepA ?_ | intro _)
      refine W_rangeC rfl (ev_of rfl (by with_reducible rfl)) leavesOk (leaves_iter bs data (by omega)) (fun _ => rfl) (by simp)
        (fun s Hc => ∃ x : XSt, (x.page + spanN s.length = (spanN text.length) + spanN (data).length ∧ WfM x.M ∧ UOk [] b m dst x.a x.n x.cap x.us x.T ∧ x.us.length ≤ x.page + 1 ∧ fillG M1 dst [none] (itemsE text data) = fillG x.M dst x.us (itS x.page 3 s ++ [(254, 3, []), (255, 3, [])])) ∧ Hc = stB bs s :: coreX m b4 b5 b6 b9 b10 b12 g79 b dst text data data 3 [(D1, Blk.oth (.deferred (some [])))] 0 x)
        (fun s Hc => ∃ x : XSt, (x.page + spanN (s.drop 64).length = (spanN text.length) + spanN (data).length ∧ WfM x.M ∧ UOk [] b m dst x.a x.n x.cap x.us x.T ∧ x.us.length ≤ x.page + 1 ∧ fillG M1 dst [none] (itemsE text data) = fillG x.M dst x.us (itS x.page 3 (s.drop 64) ++ [(254, 3, []), (255, 3, [])])) ∧ Hc = stB bs s :: coreX m b4 b5 b6 b9 b10 b12 g79 b dst text data data 3 [(D1, Blk.oth (.deferred (some [])))] 0 x)
        (fun c Hc => c = .ret ∧ ∃ e x, (e ≠ 0 ∧ WfM x.M ∧ UOk [] b m dst x.a x.n x.cap x.us x.T ∧ x.n ≤ 1000 ∧ fillG M1 dst [none] (itemsE text data) = (e, x.M, x.us)) ∧ Hc = coreX m b4 b5 b6 b9 b10 b12 g79 b dst text data data 3 [(D1, Blk.oth (.deferred (some [])))] e x)
        (fun u v => ⟨by
          rintro s H ⟨Hc, ⟨x, _, rfl⟩, rfl⟩
          exact ⟨_, .cons (.there (.there .here)) .nil⟩, by
          rintro s H hs ⟨Hc, ⟨x, hx, rfl⟩, rfl⟩
          refine ⟨_, _, .cons (.there (.there .here)) .nil, ⟨_, ⟨x, hx, rfl⟩, rfl⟩, ?_⟩
          exact List.Perm.trans (List.Perm.swap _ _ _) (List.Perm.cons _ (List.Perm.swap _ _ _))⟩)
        ⟨_, ⟨⟨0, Mk, us, a', n', cap', T', page, []⟩, ⟨by rw [hpage], hwf, hu', hlen, by rw [hpage]; exact hgo⟩, rfl⟩, by simp only [coreX, List.cons_append, List.nil_append]; exact subT⟩ ?_ ?_ ?_
      · rintro y s Hc w1 ⟨x, ⟨h1, h2, h3, h4, h5⟩, rfl⟩ hs
        simp only [coreX, List.cons_append, List.nil_append]
        have hsl := List.length_pos_iff.2 hs
        have hsp : spanN (s.drop 64).length + 1 = spanN s.length := by simp only [spanN, List.length_drop]; omega
        have hsr : spanN (data).length ≤ 4 := by simp only [spanN]; omega
        have hp256 : x.page < 256 := by omega
        have hn9 : x.n ≤ 1000 := by rw [h3.len]; omega
        repeat (first | refine stepA ?_ | intro _)
        refine ⟨rfl, fun w2 => ?_⟩
        repeat (first | refine stepA ?_ | intro _)
        refine callT ?_; refine ⟨_, _, filled_sp m h2 b dst h3 hn9 x.page 3 hp256 (s.take 64), _, cutT, ?_⟩
        rintro v H' ⟨a2, n2, c2, T2, rfl, hu2, rfl⟩
        simp only [List.cons_append, List.nil_append]
        have hcons := itS_cons x.page 3 hs
        have hw2 := filledM_wf h2 dst x.us x.page 3 (s.take 64)
        have hl2 := filledM_len x.M dst x.us x.page 3 (s.take 64)
        by_cases hr : (filledM x.M dst x.us x.page 3 (s.take 64)).1 = 0
        · rw [hr]
          repeat (first | refine stepA ?_ | intro _)
          have ep : ((x.page : Nat) : Int) + 1 = ((x.page + 1 : Nat) : Int) := by omega
          rw [ep]
          repeat (first | refine stepA ?_ | intro _)
          refine roundQ_n ⟨⟨x.k, (filledM x.M dst x.us x.page 3 (s.take 64)).2.1, (filledM x.M dst x.us x.page 3 (s.take 64)).2.2, a2, n2, c2, T2, x.page + 1, []⟩, ⟨by simp only; omega, hw2, hu2, Nat.le_trans hl2 (Nat.add_le_add_right h4 1), ?_⟩, rfl⟩ subT
          rw [h5, hcons, List.cons_append, fillG_go hr]
        · repeat (first | refine stepA ?_ | intro _)
          refine W_any [erB b5 (filledM x.M dst x.us x.page 3 (s.take 64)).1] [3] rfl ?_
          refine AS_at 0 (by decide +kernel) ?_; refine takeA ?_
          refine AS_at 1 (by decide +kernel) ?_; refine takeA ?_
          refine AS_one 2 rfl (by decide +kernel) rfl ?_
          refine stepA ?_
          refine L_nil ?_; refine ⟨rfl, (by first | exact KeepsH.brk (by decide +kernel) | exact KeepsH.sub subA | exact KeepsH.sub subT), ?_⟩
          refine AS_one 3 rfl (by decide +kernel) rfl ?_
          refine stepA ?_
          refine L_nil ?_; refine ⟨rfl, (by first | exact KeepsH.brk (by decide +kernel) | exact KeepsH.sub subA | exact KeepsH.sub subT), ?_⟩
          refine AS_done (by decide +kernel) ?_
          repeat (first | refine stepA ?_ | intro _)
          have hn2 : n2 ≤ 1000 := by rw [hu2.len]; omega
          refine roundQ_r ⟨rfl, _, ⟨x.k, (filledM x.M dst x.us x.page 3 (s.take 64)).2.1, (filledM x.M dst x.us x.page 3 (s.take 64)).2.2, a2, n2, c2, T2, x.page, []⟩, ⟨hr, hw2, hu2, hn2, ?_⟩, rfl⟩ subT
          rw [h5, hcons, List.cons_append, fillG_no hr]
      · rintro D s Hc rfl ⟨x, ⟨h1, h2, h3, h4, h5⟩, rfl⟩
        simp only [coreX, List.cons_append, List.nil_append]
        repeat (first | refine stepA ?_ | intro _)
        have hz : spanN ([] : List UInt8).length = 0 := by decide
        refine ⟨⟨2, x.M, x.us, x.a, x.n, x.cap, x.T, x.page, [D, D1]⟩, rfl, ⟨⟨by show 2 ≤ 2; omega, rfl, ?_⟩, h2, h3, h4, ?_⟩, by show 2 - 2 < _; omega, sublA, subT⟩
        · simp only [pageK]; omega
        · rw [h5, itS_nil]; rfl
      · rintro D c Hc ⟨rfl, e, x, ⟨he, h2, h3, h4, h5⟩, rfl⟩
        simp only [coreX, List.cons_append, List.nil_append]
        rw [h5, if_neg (show ¬ (e, x.M, x.us).1 = 0 from he)]
        repeat (first | refine stepA ?_ | intro _)
        subst hdEnd
        refine retEA (lvMark ?_)
        (refine lvMark ?_)
        refine lvCallA ?_
        refine ⟨_, _, ends_sp m h2 b b5 e dst h3 h4, _, cutT, ?_⟩
        rintro v H' rfl
        refine ⟨_, List.perm_append_comm, ?_⟩
        try simp only [List.cons_append, List.nil_append, List.append_nil]
        have he2 : endsM e x.M dst x.us = undoAll x.M dst x.us := by rw [endsM, if_neg he]
        rw [he2]
        refine lvNil ?_
        exact ⟨_, .inl ⟨he, rfl, rfl⟩, subT⟩
    · obtain ⟨D1, D2, rfl⟩ : ∃ x y, Ds = [x, y] := by
        match Ds, hDs with
        | [x, y], _ => exact ⟨x, y, rfl⟩
      simp only [pageK, restK] at hpage hgo
      simp only [List.map_cons, List.map_nil, List.nil_append, List.cons_append]
      subst hdEnd
      repeat (first | refine stepA ?_ | intro _)
      have htl9 : us.length ≤ 10 := by omega
      refine W_loop (fun z : Nat × XSt => [(4, .pointer (some ⟨b4, 0, none⟩)), (5, .pointer (some ⟨b5, 0, none⟩)), (6, .pointer (some ⟨b6, 0, none⟩)), (9, .pointer (some ⟨b9, 0, none⟩)), (102, .int .i64 (z.1 : Int))])
        (fun z => (D1, Blk.oth (.deferred (some []))) :: (D2, Blk.oth (.deferred (some []))) :: erB b5 0 :: (b4, .cells (spC sp0 none 0 0) 84) :: (b6, .cells [wkP b] 141) :: (b9, .cells (spC ⟨dst, spanN text.length, spanN data.length, 0, []⟩ none 0 0) 84) :: wkB b m dst z.2.a z.2.n z.2.cap :: (memH m z.2.M ++ z.2.T))
        (fun z => z.1 ≤ 2 ∧ WfM z.2.M ∧ UOk [] b m dst z.2.a z.2.n z.2.cap z.2.us z.2.T ∧ z.2.us.length ≤ 10 + z.1 ∧ fillG M1 dst [none] (itemsE text data) = fillG z.2.M dst z.2.us (([(254, 3, []), (255, 3, [])] : List Item).drop z.1))
        (fun z => 2 - z.1) (0, ⟨0, Mk, us, a', n', cap', T', 0, []⟩) ⟨Nat.zero_le _, hwf, hu', htl9, hgo⟩ sublA subT ?_
      rintro ⟨i, x⟩ ⟨hi, h2, h3, h4, h5⟩
      simp only at hi h2 h3 h4 h5 ⊢
      have hn9 : x.n ≤ 1000 := by rw [h3.len]; omega
      simp only [List.cons_append, List.nil_append]
      by_cases hlt : i < 2
      · have hdrop : ([(254, 3, []), (255, 3, [])] : List Item).drop i = (254 + i, 3, []) :: ([(254, 3, []), (255, 3, [])] : List Item).drop (i + 1) := by
          obtain rfl | rfl : i = 0 ∨ i = 1 := by omega
          · rfl
          · rfl
        have ep : (254 : Int) + (i : Int) = ((254 + i : Nat) : Int) := by omega
        have hw2 := filledM_wf h2 dst x.us (254 + i) 3 []
        have hl2 := filledM_len x.M dst x.us (254 + i) 3 []
        repeat (first | refine stepA ?_ | intro _)
        rw [ep]
        refine callT ?_; refine ⟨_, _, filled_sp m h2 b dst h3 hn9 (254 + i) 3 (by omega) [], _, cutT, ?_⟩
        rintro v H' ⟨a2, n2, c2, T2, rfl, hu2, rfl⟩
        simp only [List.cons_append, List.nil_append]
        by_cases hr : (filledM x.M dst x.us (254 + i) 3 []).1 = 0
        · rw [hr]
          repeat (first | refine stepA ?_ | intro _)
          exact ⟨rfl, (i + 1, ⟨0, (filledM x.M dst x.us (254 + i) 3 []).2.1, (filledM x.M dst x.us (254 + i) 3 []).2.2, a2, n2, c2, T2, 0, []⟩), ⟨hlt, hw2, hu2, Nat.le_trans hl2 (by simp only; omega), by rw [h5, hdrop, fillG_go hr]⟩, by simp only; omega, sublA, subT⟩
        · have h6 : fillG M1 dst [none] (itemsE text data) = filledM x.M dst x.us (254 + i) 3 [] := by rw [h5, hdrop, fillG_no hr]
          rw [h6, if_neg hr]
          repeat (first | refine stepA ?_ | intro _)
          refine W_any [erB b5 (filledM x.M dst x.us (254 + i) 3 []).1] [3] rfl ?_
          refine AS_at 0 (by decide +kernel) ?_; refine takeA ?_
          refine AS_at 1 (by decide +kernel) ?_; refine takeA ?_
          refine AS_one 2 rfl (by decide +kernel) rfl ?_
          refine stepA ?_
          refine L_nil ?_; refine ⟨rfl, (by first | exact KeepsH.brk (by decide +kernel) | exact KeepsH.sub subA | exact KeepsH.sub subT), ?_⟩
          refine AS_one 3 rfl (by decide +kernel) rfl ?_
          refine stepA ?_
          refine L_nil ?_; refine ⟨rfl, (by first | exact KeepsH.brk (by decide +kernel) | exact KeepsH.sub subA | exact KeepsH.sub subT), ?_⟩
          refine AS_done (by decide +kernel) ?_
          repeat (first | refine stepA ?_ | intro _)
          have hn2 : n2 ≤ 1000 := by rw [hu2.len]; omega
          refine retEA (lvMark ?_)
          refine lvMark ?_
          refine lvCallA ?_
          refine ⟨_, _, ends_sp m hw2 b b5 (filledM x.M dst x.us (254 + i) 3 []).1 dst hu2 hn2, _, cutT, ?_⟩
          rintro v H' rfl
          refine ⟨_, List.perm_append_comm, ?_⟩
          try simp only [List.cons_append, List.nil_append, List.append_nil]
          have he2 : endsM (filledM x.M dst x.us (254 + i) 3 []).1 (filledM x.M dst x.us (254 + i) 3 []).2.1 dst (filledM x.M dst x.us (254 + i) 3 []).2.2 = undoAll (filledM x.M dst x.us (254 + i) 3 []).2.1 dst (filledM x.M dst x.us (254 + i) 3 []).2.2 := by rw [endsM, if_neg hr]
          rw [he2]
          refine lvNil ?_
          exact ⟨_, .inl ⟨hr, rfl, rfl⟩, subT⟩
      · obtain rfl : i = 2 := by omega
        have h6 : fillG M1 dst [none] (itemsE text data) = (0, x.M, x.us) := h5
        rw [h6]
        simp only [if_true]
        repeat (first | refine stepA ?_ | intro _)
        refine retEA (lvMark ?_)
        refine lvMark ?_
        refine lvCallA ?_
        refine ⟨_, _, ends_sp m h2 b b5 0 dst h3 hn9, _, cutT, ?_⟩
        rintro v H' rfl
        refine ⟨_, List.perm_append_comm, ?_⟩
        try simp only [List.cons_append, List.nil_append, List.append_nil]
        have he2 : endsM 0 x.M dst x.us = x.M := by rw [endsM, if_pos rfl]
        rw [he2]
        refine lvNil ?_
        exact ⟨_, .inr ⟨trivial, rfl, rfl⟩, subT⟩
end
end Go.Proofs.YtcpfmjlceoiofaaGreatDoor
