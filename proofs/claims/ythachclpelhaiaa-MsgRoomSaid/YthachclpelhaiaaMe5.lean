/-
  Messages: Find.
-/
import Derived.Test.YthachclpelhaiaaMe4
namespace Go.Proofs.Ythachclpelhaiaa
open Go.RowKit
attribute [local irreducible] W L QL PureOp thenQ blockQ retQ Spec IterOk YSpec roundQ scopeQ noGoQ
attribute [local irreducible] AS ASi IterOkC
set_option maxHeartbeats 3200000
theorem step_skip {kind : Int} {k : Nat} {x : MsgV} {s : Option (Nat × Int)} (h : ¬ Want kind x.t) : stepG kind k x s = s := by unfold stepG; rw [if_neg h]
theorem step_none {kind : Int} {k : Nat} {x : MsgV} (h : Want kind x.t) : stepG kind k x none = some (k, x.t) := by unfold stepG; rw [if_pos h]
theorem step_less {kind : Int} {k j : Nat} {x : MsgV} {t : Int} (h : Want kind x.t) (hk : kind < 0) (ht : x.t < t) : stepG kind k x (some (j, t)) = some (k, x.t) := by unfold stepG; rw [if_pos h]; simp only [hk, ht, and_self, if_true]
theorem step_more {kind : Int} {k j : Nat} {x : MsgV} {t : Int} (h : Want kind x.t) (ht : ¬ x.t < t) : stepG kind k x (some (j, t)) = some (j, t) := by unfold stepG; rw [if_pos h]; simp only [ht, and_false, if_false]
theorem found0 {kind : Int} {l : List MsgV} {k : Nat} {x : MsgV} (hk : ¬ kind < 0) (hx : l[k]? = some x) (hw : Want kind x.t) (h0 : fT kind l k = none) : findI kind l = (k : Int) := by
  have h1 := fT_next (kind := kind) hx
  rw [h0, step_none hw] at h1
  have e : findG kind l 0 none = some (k, x.t) := by
    have := findG_append kind (l.take (k + 1)) (l.drop (k + 1)) 0 none
    rw [List.take_append_drop] at this
    rw [this]
    show findG kind _ _ (fT kind l (k + 1)) = _
    rw [h1]
    exact findG_keep hk _ _ _
  rw [findI, e]; rfl
theorem find_bad (a : Option Addr) (n cap : Nat) (l : List MsgV) (kind : Int) (Hs : Hp) (how : oM a n cap l Hs) (hn : n ≤ 100) (hs : sumD (ds_ l) ≤ 100000) (hr : ¬ RightM l) :
    Spec Try.prog 19 [.slice a n cap, .int .i64 kind] Hs fun v H' => v = .int .i64 (-1) ∧ H' = Hs := by
  refine Spec_body Try.func19 rfl Try.ntmps19 rfl (fun w0 => ?_)
  repeat (first | refine stepA ?_ | intro _)
  refine callT ?_; refine ⟨_, _, right_own a n cap l Hs how (by omega) (by omega), _, cutT, ?_⟩
  rintro v H' ⟨⟨b, hb, rfl⟩, rfl⟩
  simp only [List.cons_append, List.nil_append]
  cases b with
  | true => exact absurd (hb.1 rfl) hr
  | false =>
    repeat (first | refine stepA ?_ | intro _)
    (first | refine retA ?_ | refine retB ?_)
    exact ⟨_, ⟨rfl, rfl⟩, subT⟩
theorem find_zero (a : Option Addr) (cap : Nat) (kind : Int) : Spec Try.prog 19 [.slice a 0 cap, .int .i64 kind] [] fun v H' => v = .int .i64 (-1) ∧ H' = [] := by
  refine Spec_body Try.func19 rfl Try.ntmps19 rfl (fun w0 => ?_)
  repeat (first | refine stepA ?_ | intro _)
  rename_i b2 b3 b5
  refine callA ?_; refine ⟨_, _, right_zero a cap, _, cutA, ?_⟩
  rintro v H' ⟨rfl, rfl⟩
  simp only [List.cons_append, List.nil_append]
  repeat (first | refine stepA ?_ | intro _)
  refine callA ?_; refine ⟨_, _, asked_spec a 0 cap kind, _, cutA, ?_⟩
  rintro v H' ⟨bk, bl, rfl, rfl⟩
  simp only [List.cons_append, List.nil_append]
  repeat (first | refine stepA ?_ | intro _)
  have inst : FnOk Try.prog 33 := inferInstance
  refine W_rangeC rfl (ev_of rfl (by with_reducible rfl)) inst (askedIter0 bk bl cap a kind) (fun _ => rfl) (by simp)
    (fun _ Hc => Hc = [kB bk kind, slB bl a 0 cap, (b5, .cells [.int .i64 (-1)] 3)]) (fun _ _ => False) (fun _ _ => False)
    (fun u v => by
      rintro k H ⟨Hc, rfl, rfl⟩
      exact ⟨_, .cons (.there (.there .here)) (.cons (.there (.there .here)) .nil)⟩)
    ⟨_, rfl, subA⟩ ?_ ?_ ?_
  · rintro y k Hc w1 _ hf
    exact hf.elim
  · rintro D k Hc hfin rfl
    repeat (first | refine stepA ?_ | intro _)
    (first | refine retA ?_ | refine retB ?_); exact ⟨_, ⟨rfl, rfl⟩, subA⟩
  · rintro D c Hc hf
    exact hf.elim
theorem find_blk (g n cap : Nat) (M : List Value) (l : List MsgV) (kind : Int) (hM : MsgsAt M l) (hl : l.length = n) (hn : n ≤ 100) (h0 : 0 < n) (hs : sumD (ds_ l) ≤ 100000) (hr : RightM l) (hB : ∀ (k : Nat) (x : MsgV), l[k]? = some x → x.t ≤ 9223372036854775807) :
    Spec Try.prog 19 [.slice (some ⟨g, 0, none⟩) n cap, .int .i64 kind] [(g, .cells M 29)] fun v H' => v = .int .i64 (findI kind l) ∧ H' = [(g, .cells M 29)] := by
  have ht : ∀ (k : Nat) (x : MsgV), l[k]? = some x → 1 ≤ x.t ∧ x.t ≤ 9223372036854775807 := fun k x hx => ⟨hr.t k x hx, hB k x hx⟩
  refine Spec_body Try.func19 rfl Try.ntmps19 rfl (fun w0 => ?_)
  repeat (first | refine stepA ?_ | intro _)
  rename_i b2 b3 b5
  refine callA ?_; refine ⟨_, _, right_blk g n cap M _ l hM hl (by omega) (by omega) h0, _, cutA, ?_⟩
  rintro v H' ⟨⟨b, hb, rfl⟩, rfl⟩
  simp only [List.cons_append, List.nil_append]
  obtain rfl : b = true := hb.2 hr
  repeat (first | refine stepA ?_ | intro _)
  refine callA ?_; refine ⟨_, _, asked_spec (some ⟨g, 0, none⟩) n cap kind, _, cutA, ?_⟩
  rintro v H' ⟨bk, bl, rfl, rfl⟩
  simp only [List.cons_append, List.nil_append]
  repeat (first | refine stepA ?_ | intro _)
  have inst : FnOk Try.prog 33 := inferInstance
  refine W_rangeC rfl (ev_of rfl (by with_reducible rfl)) inst (askedIter bk bl g n cap kind M l hM hl (by omega) ht) (fun _ => rfl) (by simp)
    (fun k Hc => (¬ kind < 0 → fT kind l k = none) ∧ Hc = aH bk bl g n cap kind M ++ [(b5, .cells [.int .i64 (atI (fT kind l k))] 3), kB b3 kind, slB b2 (some ⟨g, 0, none⟩) n cap])
    (fun k Hc => (¬ kind < 0 → fT kind l (k + 1) = none) ∧ Hc = aH bk bl g n cap kind M ++ [(b5, .cells [.int .i64 (atI (fT kind l (k + 1)))] 3), kB b3 kind, slB b2 (some ⟨g, 0, none⟩) n cap])
    (fun c Hc => c = .exit 0 ∧ Hc = [(g, .cells M 29), (b5, .cells [.int .i64 (findI kind l)] 3)])
    (fun u v => ⟨by
      rintro k H ⟨Hc, ⟨_, rfl⟩, rfl⟩
      exact ⟨_, .cons (.there (.there .here)) (.cons (.there (.there .here)) (.cons (.there (.there .here)) .nil))⟩, by
      rintro k x hx hw H ⟨Hc, ⟨h1, rfl⟩, rfl⟩
      have e := fT_next (kind := kind) hx
      rw [step_skip hw] at e
      exact ⟨_, ⟨by rw [e]; exact h1, by rw [e]⟩, rfl⟩, by
      rintro k H ⟨Hc, ⟨h1, rfl⟩, rfl⟩
      exact ⟨_, ⟨h1, rfl⟩, rfl⟩⟩)
    ⟨_, ⟨fun _ => rfl, rfl⟩, subA⟩ ?_ ?_ ?_
  · rintro y k Hc w1 ⟨hpos, rfl⟩ ⟨x, hx, hw⟩
    have hkn := (List.getElem?_eq_some_iff.1 hx).1
    have hgd : l.getD k zM = x := by simp [List.getD, hx]
    have hnx := fT_next (kind := kind) hx
    have hof := fT_of kind l k (by omega)
    rw [hgd]
    simp only [List.cons_append, List.nil_append]
    repeat (first | refine stepA ?_ | intro _)
    refine ⟨rfl, fun w2 => ?_⟩
    by_cases hneg : kind < 0
    · cases hs : fT kind l k with
      | none =>
        rw [hs, step_none hw] at hnx
        simp only [atI]
        repeat (first | refine stepA ?_ | intro _)
        exact roundQ_n (Hc := aH bk bl g n cap kind M ++ [(b5, .cells [.int .i64 (atI (fT kind l (k + 1)))] 3), kB b3 kind, slB b2 (some ⟨g, 0, none⟩) n cap]) ⟨fun h => absurd hneg h, rfl⟩ (by rw [hnx]; exact subA)
      | some p =>
        obtain ⟨j, t⟩ := p
        rw [hs] at hof hnx
        obtain ⟨hjk, z, hz, rfl⟩ := hof
        have hc := hM.cell hz 0 (by omega)
        simp only [atI]
        by_cases hlt : x.t < z.t
        · rw [step_less hw hneg hlt] at hnx
          repeat (first | refine stepA ?_ | intro _)
          exact roundQ_n (Hc := aH bk bl g n cap kind M ++ [(b5, .cells [.int .i64 (atI (fT kind l (k + 1)))] 3), kB b3 kind, slB b2 (some ⟨g, 0, none⟩) n cap]) ⟨fun h => absurd hneg h, rfl⟩ (by rw [hnx]; exact subA)
        · rw [step_more hw hlt] at hnx
          repeat (first | refine stepA ?_ | intro _)
          exact roundQ_n (Hc := aH bk bl g n cap kind M ++ [(b5, .cells [.int .i64 (atI (fT kind l (k + 1)))] 3), kB b3 kind, slB b2 (some ⟨g, 0, none⟩) n cap]) ⟨fun h => absurd hneg h, rfl⟩ (by rw [hnx]; exact subA)
    · have hs := hpos hneg
      have hf := found0 hneg hx hw hs
      rw [hs]
      simp only [atI]
      repeat (first | refine stepA ?_ | intro _)
      exact roundQ_e ⟨rfl, rfl⟩ (by rw [hf]; exact subA)
  · rintro D k Hc hfin ⟨_, rfl⟩
    subst hfin
    have e : fT kind l k = findG kind l 0 none := by rw [fT, List.take_of_length_le (by omega)]
    rw [e]
    simp only [List.cons_append, List.nil_append]
    repeat (first | refine stepA ?_ | intro _)
    (first | refine retA ?_ | refine retB ?_); exact ⟨_, ⟨rfl, rfl⟩, subA⟩
  · rintro D c Hc ⟨rfl, rfl⟩
    repeat (first | refine stepA ?_ | intro _)
    (first | refine retA ?_ | refine retB ?_); exact ⟨_, ⟨rfl, rfl⟩, subA⟩
/-- Find, in a list of the call's own -/
theorem find_own (a : Option Addr) (n cap : Nat) (l : List MsgV) (kind : Int) (Hs : Hp) (how : oM a n cap l Hs) (hn : n ≤ 100) (hs : sumD (ds_ l) ≤ 100000) (hr : RightM l) (hB : ∀ (k : Nat) (x : MsgV), l[k]? = some x → x.t ≤ 9223372036854775807) :
    Spec Try.prog 19 [.slice a n cap, .int .i64 kind] Hs fun v H' => v = .int .i64 (findI kind l) ∧ H' = Hs := by
  have hl := oM_len how
  rcases how.inv with ⟨rfl, rfl, rfl, _, rfl⟩ | ⟨g, ys, rfl, rfl, _, _, _, _⟩
  · obtain rfl : l = [] := List.eq_nil_of_length_eq_zero hl
    exact find_zero none 0 kind
  · by_cases h0 : n = 0
    · subst h0
      obtain rfl : l = [] := List.eq_nil_of_length_eq_zero hl
      exact Spec.frameK (find_zero _ cap kind) fun v ⟨h1, _⟩ => ⟨h1, rfl⟩
    · exact find_blk g n cap _ l kind (msgsAt_own l ys) hl hn (by omega) hs hr hB
end Go.Proofs.Ythachclpelhaiaa
