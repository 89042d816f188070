/-
  Messages: Receive.
-/
import Derived.Test.YthachclpelhaiaaMe6
namespace Go.Proofs.Ythachclpelhaiaa
open Go.RowKit
attribute [local irreducible] W L QL PureOp thenQ blockQ retQ Spec IterOk YSpec roundQ scopeQ noGoQ
attribute [local irreducible] AS ASi IterOkC
set_option maxHeartbeats 3200000
theorem findI_cases (kind : Int) (l : List MsgV) : (findI kind l = -1) ∨ ∃ (k : Nat) (x : MsgV), findI kind l = (k : Int) ∧ l[k]? = some x := by
  have h := fT_of kind l l.length (Nat.le_refl _)
  rw [fT, List.take_of_length_le (Nat.le_refl _)] at h
  unfold findI
  cases hs : findG kind l 0 none with
  | none => exact .inl rfl
  | some p =>
    obtain ⟨j, t⟩ := p
    rw [hs] at h
    obtain ⟨_, z, hz, rfl⟩ := h
    exact .inr ⟨j, z, rfl, hz⟩
abbrev cutM (x : MsgV) (k : Nat) : MsgV := ⟨x.t, x.d.take k⟩
theorem receive_spec (a : Option Addr) (n cap : Nat) (l : List MsgV) (kind most : Int) (isCut : Bool) (Hs : Hp) (how : oM a n cap l Hs) (hn : n ≤ 100) (hs : sumD (ds_ l) ≤ 100000) (hB : ∀ (k : Nat) (x : MsgV), l[k]? = some x → x.t ≤ 9223372036854775807) :
    Spec Try.prog 13 [.slice a n cap, .int .i64 kind, .int .i64 most, .bool isCut] Hs fun v H' =>
      (¬ (RightM l ∧ 0 ≤ most) ∧ v = .tuple #[.slice none 0 0, .agg zM.cells.toArray, .int .i64 150] ∧ H' = Hs) ∨
      ((RightM l ∧ 0 ≤ most) ∧ findI kind l = -1 ∧ v = .tuple #[.slice none 0 0, .agg zM.cells.toArray, .int .i64 63] ∧ H' = Hs) ∨
      ((RightM l ∧ 0 ≤ most) ∧ ∃ (k : Nat) (x : MsgV), findI kind l = (k : Int) ∧ l[k]? = some x ∧
        (((x.d.length : Int) > most ∧ isCut = false ∧ v = .tuple #[.slice none 0 0, .agg zM.cells.toArray, .int .i64 130] ∧ H' = Hs) ∨
         (¬ ((x.d.length : Int) > most ∧ isCut = false) ∧ ∃ g cap' ys, v = .tuple #[.slice (some ⟨g, 0, none⟩) (n - 1) cap', .agg (cutM x most.toNat).cells.toArray, .int .i64 0] ∧
           (cap' * 2 ≤ (mcells (l.eraseIdx k) ++ ys).length ∧ n - 1 ≤ cap' ∧ cap' ≤ maxLen) ∧ H' = (g, .cells (mcells (l.eraseIdx k) ++ ys) 29) :: Hs))) := by
  have hl := oM_len how
  have hcap := how.cap
  refine Spec_body Try.func13 rfl Try.ntmps13 rfl (fun w0 => ?_)
  repeat (first | refine stepA ?_ | intro _)
  refine callT ?_; refine ⟨_, _, right_own a n cap l Hs how (by omega) (by omega), _, cutT, ?_⟩
  rintro v H' ⟨⟨b, hb, rfl⟩, rfl⟩
  simp only [List.cons_append, List.nil_append]
  cases b with
  | false =>
    repeat (first | refine stepA ?_ | intro _)
    (first | refine retA ?_ | refine retB ?_)
    exact ⟨_, .inl ⟨fun h => (by have := hb.2 h.1; cases this), rfl, rfl⟩, subT⟩
  | true =>
    have hr := hb.1 rfl
    by_cases hm0 : 0 ≤ most
    · repeat (first | refine stepA ?_ | intro _)
      refine callT ?_; refine ⟨_, _, find_own a n cap l kind _ how (by omega) hs hr hB, _, cutT, ?_⟩
      rintro v H' ⟨rfl, rfl⟩
      simp only [List.cons_append, List.nil_append]
      rcases findI_cases kind l with hf | ⟨k, x, hf, hx⟩
      · rw [hf]
        repeat (first | refine stepA ?_ | intro _)
        (first | refine retA ?_ | refine retB ?_)
        exact ⟨_, .inr (.inl ⟨⟨hr, hm0⟩, rfl, rfl, rfl⟩), subT⟩
      · have hkn := (List.getElem?_eq_some_iff.1 hx).1
        rw [hf]
        rcases how.inv with ⟨rfl, rfl, rfl, _, rfl⟩ | ⟨g, ys, rfl, rfl, _, hc, hcn, hcm⟩
        · omega
        have hgd : l.getD k zM = x := by simp [List.getD, hx]
        have hc0 := (msgsAt_own l ys).cell hx 0 (by omega)
        have hc1 := (msgsAt_own l ys).cell hx 1 (by omega)
        have hcx := msgsAt_own l ys k x hx
        obtain ⟨mo, rfl⟩ : ∃ mo : Nat, most = (mo : Int) := ⟨most.toNat, by omega⟩
        have hcut : (x.d.drop 0).take (min x.d.length mo - 0) = x.d.take mo := by
          rw [List.drop_zero, Nat.sub_zero]
          by_cases h : x.d.length ≤ mo
          · rw [Nat.min_eq_left h, List.take_of_length_le (Nat.le_refl _), List.take_of_length_le h]
          · rw [Nat.min_eq_right (by omega)]
        have hto : ((mo : Int)).toNat = mo := Int.toNat_natCast mo
        by_cases hbig : (x.d.length : Int) > (mo : Int) ∧ isCut = false
        · obtain ⟨hb1, rfl⟩ := hbig
          repeat (first | refine stepA ?_ | intro _)
          (first | refine retA ?_ | refine retB ?_)
          exact ⟨_, .inr (.inr ⟨⟨hr, hm0⟩, k, x, rfl, hx, .inl ⟨hb1, rfl, rfl, rfl⟩⟩), subT⟩
        · have hgo : ∀ {R : Prop}, ((x.d.length : Int) ≤ (mo : Int) → R) → ((x.d.length : Int) > (mo : Int) → isCut = true → R) → R := fun h1 h2 => by
            by_cases h : (x.d.length : Int) ≤ (mo : Int)
            · exact h1 h
            · refine h2 (by omega) ?_
              cases isCut with
              | true => rfl
              | false => exact absurd ⟨by omega, rfl⟩ hbig
          apply hgo
          · intro hle
            repeat (first | refine stepA ?_ | intro _)
            (first | (apply L_P; (· exact rfl); (· exact rfl)) | (apply QL_P; (· exact rfl))); (· (apply P_slStr; (· exact evA); (· exact Bound.none); (· exact Bound.of (j := min x.d.length mo) rfl (by omega)); (· omega)))
            rw [hcut]
            repeat (first | refine stepA ?_ | intro _)
            rename_i bz _ bm
            refine W_any [(g, .cells (mcells l ++ ys) 29), (bm, .cells (cutM x mo).cells 29)] [] rfl ?_
            refine AS_at 0 (by decide +kernel) ?_; refine takeA ?_
            refine AS_at 2 (by decide +kernel) ?_; refine takeA ?_
            refine AS_at 3 (by decide +kernel) ?_; refine takeA ?_
            refine AS_at 4 (by decide +kernel) ?_; refine takeA ?_
            refine AS_at 6 (by decide +kernel) ?_; refine takeA ?_
            refine AS_one 1 rfl (by decide +kernel) rfl ?_
            refine callA ?_; refine ⟨_, _, clone_spec g n cap l ys hl (by omega) (by omega), _, cutA, ?_⟩
            rintro v H' ⟨g2, cap2, ys2, rfl, ⟨hq1, hq2, hq3⟩, rfl⟩
            simp only [List.cons_append, List.nil_append]
            refine L_nil ?_; refine ⟨rfl, (by first | exact KeepsH.brk (by decide +kernel) | exact KeepsH.sub subA | exact KeepsH.sub subT), ?_⟩
            refine AS_one 5 rfl (by decide +kernel) rfl ?_
            refine callA ?_; refine ⟨_, _, delete_spec g2 n cap2 k l ys2 hl (by omega) (by omega) hq1 hq2 hq3, _, cutA, ?_⟩
            rintro v H' ⟨rfl, ys3, hq4, rfl⟩
            simp only [List.cons_append, List.nil_append]
            refine L_nil ?_; refine ⟨rfl, (by first | exact KeepsH.brk (by decide +kernel) | exact KeepsH.sub subA | exact KeepsH.sub subT), ?_⟩
            refine AS_at 7 (by decide +kernel) ?_; refine takeA ?_
            refine AS_one 8 rfl (by decide +kernel) rfl ?_
            refine stepA ?_
            refine L_nil ?_; refine ⟨rfl, (by first | exact KeepsH.brk (by decide +kernel) | exact KeepsH.sub subA | exact KeepsH.sub subT), ?_⟩
            refine AS_at 9 (by decide +kernel) ?_; refine takeA ?_
            refine AS_done (by decide +kernel) ?_
            repeat (first | refine stepA ?_ | intro _)
            (first | refine retA ?_ | refine retB ?_)
            exact ⟨_, .inr (.inr ⟨⟨hr, hm0⟩, k, x, rfl, hx, .inr ⟨hbig, g2, cap2, ys3, by rw [hto]; rfl, ⟨hq4, by omega, hq3⟩, rfl⟩⟩), subA⟩
          · intro hgt hct
            subst hct
            repeat (first | refine stepA ?_ | intro _)
            (first | (apply L_P; (· exact rfl); (· exact rfl)) | (apply QL_P; (· exact rfl))); (· (apply P_slStr; (· exact evA); (· exact Bound.none); (· exact Bound.of (j := min x.d.length mo) rfl (by omega)); (· omega)))
            rw [hcut]
            repeat (first | refine stepA ?_ | intro _)
            rename_i bz _ bm
            refine W_any [(g, .cells (mcells l ++ ys) 29), (bm, .cells (cutM x mo).cells 29)] [] rfl ?_
            refine AS_at 0 (by decide +kernel) ?_; refine takeA ?_
            refine AS_at 2 (by decide +kernel) ?_; refine takeA ?_
            refine AS_at 3 (by decide +kernel) ?_; refine takeA ?_
            refine AS_at 4 (by decide +kernel) ?_; refine takeA ?_
            refine AS_at 6 (by decide +kernel) ?_; refine takeA ?_
            refine AS_one 1 rfl (by decide +kernel) rfl ?_
            refine callA ?_; refine ⟨_, _, clone_spec g n cap l ys hl (by omega) (by omega), _, cutA, ?_⟩
            rintro v H' ⟨g2, cap2, ys2, rfl, ⟨hq1, hq2, hq3⟩, rfl⟩
            simp only [List.cons_append, List.nil_append]
            refine L_nil ?_; refine ⟨rfl, (by first | exact KeepsH.brk (by decide +kernel) | exact KeepsH.sub subA | exact KeepsH.sub subT), ?_⟩
            refine AS_one 5 rfl (by decide +kernel) rfl ?_
            refine callA ?_; refine ⟨_, _, delete_spec g2 n cap2 k l ys2 hl (by omega) (by omega) hq1 hq2 hq3, _, cutA, ?_⟩
            rintro v H' ⟨rfl, ys3, hq4, rfl⟩
            simp only [List.cons_append, List.nil_append]
            refine L_nil ?_; refine ⟨rfl, (by first | exact KeepsH.brk (by decide +kernel) | exact KeepsH.sub subA | exact KeepsH.sub subT), ?_⟩
            refine AS_at 7 (by decide +kernel) ?_; refine takeA ?_
            refine AS_one 8 rfl (by decide +kernel) rfl ?_
            refine stepA ?_
            refine L_nil ?_; refine ⟨rfl, (by first | exact KeepsH.brk (by decide +kernel) | exact KeepsH.sub subA | exact KeepsH.sub subT), ?_⟩
            refine AS_at 9 (by decide +kernel) ?_; refine takeA ?_
            refine AS_done (by decide +kernel) ?_
            repeat (first | refine stepA ?_ | intro _)
            (first | refine retA ?_ | refine retB ?_)
            exact ⟨_, .inr (.inr ⟨⟨hr, hm0⟩, k, x, rfl, hx, .inr ⟨hbig, g2, cap2, ys3, by rw [hto]; rfl, ⟨hq4, by omega, hq3⟩, rfl⟩⟩), subA⟩
    · repeat (first | refine stepA ?_ | intro _)
      (first | refine retA ?_ | refine retB ?_)
      exact ⟨_, .inl ⟨fun h => hm0 h.2, rfl, rfl⟩, subT⟩
end Go.Proofs.Ythachclpelhaiaa
