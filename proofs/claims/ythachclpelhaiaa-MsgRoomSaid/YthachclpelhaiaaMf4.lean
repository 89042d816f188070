/-
  Messages: the document's answer: Receive.
-/
import Derived.Test.YthachclpelhaiaaMf3
namespace Go.Proofs.Ythachclpelhaiaa
open Go.RowKit
attribute [local irreducible] W L QL PureOp thenQ blockQ retQ Spec IterOk YSpec roundQ scopeQ noGoQ
attribute [local irreducible] AS ASi IterOkC
set_option maxHeartbeats 3200000
theorem refReceive_spec (a : Option Addr) (n cap : Nat) (l : List MsgV) (kind most : Int) (isCut : Bool) (Hs : Hp) (how : oM a n cap l Hs) (hn : n ≤ 100) (hB : ∀ (k : Nat) (x : MsgV), l[k]? = some x → x.t ≤ 9223372036854775807) :
    Spec Try.prog 17 [.slice a n cap, .int .i64 kind, .int .i64 most, .bool isCut] Hs fun v H' =>
      (¬ (RightM l ∧ 0 ≤ most) ∧ v = .tuple #[.slice none 0 0, .agg zM.cells.toArray, .int .i64 150] ∧ H' = Hs) ∨
      ((RightM l ∧ 0 ≤ most) ∧ findI kind l = -1 ∧ v = .tuple #[.slice none 0 0, .agg zM.cells.toArray, .int .i64 63] ∧ H' = Hs) ∨
      ((RightM l ∧ 0 ≤ most) ∧ ∃ (k : Nat) (x : MsgV), findI kind l = (k : Int) ∧ l[k]? = some x ∧
        (((x.d.length : Int) > most ∧ isCut = false ∧ v = .tuple #[.slice none 0 0, .agg zM.cells.toArray, .int .i64 130] ∧ H' = Hs) ∨
         (¬ ((x.d.length : Int) > most ∧ isCut = false) ∧ ∃ a' cap' Hs', v = .tuple #[.slice a' (n - 1) cap', .agg (cutM x most.toNat).cells.toArray, .int .i64 0] ∧
           oM a' (n - 1) cap' (l.eraseIdx k) Hs' ∧ H' = Hs' ++ Hs))) := by
  have hl := oM_len how
  have hcap := how.cap
  have hml := mcells_len l
  refine Spec_body Try.func17 rfl Try.ntmps17 rfl (fun w0 => ?_)
  repeat (first | refine stepA ?_ | intro _)
  refine callT ?_; refine ⟨_, _, refRight_own a n cap l Hs how (by omega), _, cutT, ?_⟩
  rintro v H' ⟨⟨b, hb, rfl⟩, rfl⟩
  simp only [List.cons_append, List.nil_append]
  cases b with
  | false =>
    repeat (first | refine stepA ?_ | intro _)
    (first | refine retA ?_ | refine retB ?_)
    exact ⟨_, .inl ⟨fun h => (by have := hb.2 h.1; cases this), rfl, rfl⟩, subT⟩
  | true =>
    have hr := hb.1 rfl
    by_cases hm0 : 0 ≤ most
    · repeat (first | refine stepA ?_ | intro _)
      refine callT ?_; refine ⟨_, _, refFind_own a n cap l kind _ how (by omega) hr hB, _, cutT, ?_⟩
      rintro v H' ⟨rfl, rfl⟩
      simp only [List.cons_append, List.nil_append]
      rcases findI_cases kind l with hf | ⟨k, x, hf, hx⟩
      · rw [hf]
        repeat (first | refine stepA ?_ | intro _)
        (first | refine retA ?_ | refine retB ?_)
        exact ⟨_, .inr (.inl ⟨⟨hr, hm0⟩, rfl, rfl, rfl⟩), subT⟩
      · have hkn := (List.getElem?_eq_some_iff.1 hx).1
        rw [hf]
        rcases how.inv with ⟨rfl, rfl, rfl, _, rfl⟩ | ⟨g, ys, rfl, rfl, _, hc, hcn, hcm⟩
        · omega
        have hgd : l.getD k zM = x := by simp [List.getD, hx]
        have hc0 := (msgsAt_own l ys).cell hx 0 (by omega)
        have hc1 := (msgsAt_own l ys).cell hx 1 (by omega)
        have hcx := msgsAt_own l ys k x hx
        have hs : mcells l ++ ys = mcells (l.take k) ++ (mcells (l.drop k) ++ ys) := by rw [← List.append_assoc, ← mcells_append, List.take_append_drop]
        have hlt : (mcells (l.take k)).length = k * 2 := by rw [mcells_len, List.length_take]; omega
        have hle : (mcells (l.drop (k + 1))).length = (n - (k + 1)) * 2 := by rw [mcells_len, List.length_drop]; omega
        have her : mcells (l.eraseIdx k) = mcells (l.take k) ++ mcells (l.drop (k + 1)) := by rw [List.eraseIdx_eq_take_drop_succ, mcells_append]
        have hdr : ((mcells l ++ ys).drop (0 + (k + 1) * 2)).take ((n - (k + 1)) * 2) = mcells (l.drop (k + 1)) := by
          rw [Nat.zero_add, List.drop_append_of_le_length (by omega), List.take_append_of_le_length (by rw [List.length_drop]; omega), drop_mcells, List.take_of_length_le (by omega)]
        obtain ⟨mo, rfl⟩ : ∃ mo : Nat, most = (mo : Int) := ⟨most.toNat, by omega⟩
        have hto : ((mo : Int)).toNat = mo := Int.toNat_natCast mo
        by_cases hgt : (x.d.length : Int) > (mo : Int)
        · cases isCut with
          | false =>
            repeat (first | refine stepA ?_ | intro _)
            (first | refine retA ?_ | refine retB ?_)
            exact ⟨_, .inr (.inr ⟨⟨hr, hm0⟩, k, x, rfl, hx, .inl ⟨hgt, rfl, rfl, rfl⟩⟩), subT⟩
          | true =>
            have hbig : ¬ ((x.d.length : Int) > (mo : Int) ∧ true = false) := fun h => by cases h.2
            have hcut : (x.d.drop 0).take (mo - 0) = x.d.take mo := by rw [List.drop_zero, Nat.sub_zero]
            repeat (first | refine stepA ?_ | intro _)
            (first | (apply L_P; (· exact rfl); (· exact rfl)) | (apply QL_P; (· exact rfl))); (· (apply P_slStr; (· exact evA); (· exact Bound.none); (· exact Bound.nat rfl); (· omega)))
            rw [hcut]
            repeat (first | refine stepA ?_ | intro _)
            rename_i bz _ bm
            by_cases hk0 : k = 0
            · have ht0 : mcells (l.take k) = [] := List.length_eq_zero_iff.1 (by omega)
              by_cases hk1 : k + 1 = n
              · have hd0 : mcells (l.drop (k + 1)) = [] := List.length_eq_zero_iff.1 (by omega)
                have how3 : oM none (n - 1) 0 (l.eraseIdx k) [] := by
                  rw [show n - 1 = 0 by omega]
                  have : l.eraseIdx k = [] := List.eq_nil_of_length_eq_zero (by rw [List.length_eraseIdx_of_lt (by omega)]; omega)
                  rw [this]; exact Own.nil
                refine W_any [(g, .cells (mcells l ++ ys) 29), (bm, .cells (cutM x mo).cells 29)] [] rfl ?_
                refine AS_at 0 (by decide +kernel) ?_; refine takeA ?_
                refine AS_at 1 (by decide +kernel) ?_; refine takeA ?_
                refine AS_at 2 (by decide +kernel) ?_; refine takeA ?_
                refine AS_at 5 (by decide +kernel) ?_; refine takeA ?_
                refine AS_at 6 (by decide +kernel) ?_; refine takeA ?_
                refine AS_at 7 (by decide +kernel) ?_; refine takeA ?_
                refine AS_two 3 8 rfl (by decide +kernel) rfl rfl ?_ ?_
                · skip
                  (first | (apply L_P; (· exact rfl); (· exact rfl)) | (apply QL_P; (· exact rfl))); (· (apply P_slP0; (· exact evA); (· exact Bound.nat rfl); (· omega)))
                  refine L_nil ?_; refine ⟨rfl, (by first | exact KeepsH.brk (by decide +kernel) | exact KeepsH.sub subA | exact KeepsH.sub subT), ?_⟩
                  refine AS_two 4 8 rfl (by decide +kernel) rfl rfl ?_ ?_
                  · skip
                    refine L_appendNone rfl evA evA (by omega) (Nat.le_refl _) ?_
                    refine L_nil ?_; refine ⟨rfl, (by first | exact KeepsH.brk (by decide +kernel) | exact KeepsH.sub subA | exact KeepsH.sub subT), ?_⟩
                    refine AS_one 8 rfl (by decide +kernel) rfl ?_
                    (first | (apply L_P; (· exact rfl); (· exact rfl)) | (apply QL_P; (· exact rfl))); (· (apply P_slSl; (· exact evA); (· exact Bound.of (j := k + 1) rfl (by omega)); (· exact Bound.none); (· omega)))
                    refine L_nil ?_; refine ⟨rfl, (by first | exact KeepsH.brk (by decide +kernel) | exact KeepsH.sub subA | exact KeepsH.sub subT), ?_⟩
                    refine AS_one 9 rfl (by decide +kernel) rfl ?_
                    refine L_appendNone rfl evA evA (by omega) (by omega) ?_
                    refine L_nil ?_; refine ⟨rfl, (by first | exact KeepsH.brk (by decide +kernel) | exact KeepsH.sub subA | exact KeepsH.sub subT), ?_⟩
                    refine AS_at 10 (by decide +kernel) ?_; refine takeA ?_
                    refine AS_done (by decide +kernel) ?_
                    repeat (first | refine stepA ?_ | intro _)
                    refine W_any [(bm, .cells (cutM x mo).cells 29)] [] rfl ?_
                    refine AS_at 0 (by decide +kernel) ?_; refine takeA ?_
                    refine AS_at 1 (by decide +kernel) ?_; refine takeA ?_
                    refine AS_at 2 (by decide +kernel) ?_; refine takeA ?_
                    refine AS_one 3 rfl (by decide +kernel) rfl ?_
                    refine stepA ?_
                    refine L_nil ?_; refine ⟨rfl, (by first | exact KeepsH.brk (by decide +kernel) | exact KeepsH.sub subA | exact KeepsH.sub subT), ?_⟩
                    refine AS_at 4 (by decide +kernel) ?_; refine takeA ?_
                    refine AS_done (by decide +kernel) ?_
                    repeat (first | refine stepA ?_ | intro _)
                    (first | refine retA ?_ | refine retB ?_)
                    refine ⟨_, .inr (.inr ⟨⟨hr, hm0⟩, k, x, rfl, hx, .inr ⟨hbig, none, 0, [], (by rw [show n - 1 = 0 by omega, hto ]; rfl), how3, rfl⟩⟩), subA⟩
                  · skip
                    (first | (apply L_P; (· exact rfl); (· exact rfl)) | (apply QL_P; (· exact rfl))); (· (apply P_slSl; (· exact evA); (· exact Bound.of (j := k + 1) rfl (by omega)); (· exact Bound.none); (· omega)))
                    refine L_nil ?_; refine ⟨rfl, (by first | exact KeepsH.brk (by decide +kernel) | exact KeepsH.sub subA | exact KeepsH.sub subT), ?_⟩
                    refine AS_one 4 rfl (by decide +kernel) rfl ?_
                    refine L_appendNone rfl evA evA (by omega) (Nat.le_refl _) ?_
                    refine L_nil ?_; refine ⟨rfl, (by first | exact KeepsH.brk (by decide +kernel) | exact KeepsH.sub subA | exact KeepsH.sub subT), ?_⟩
                    refine AS_one 9 rfl (by decide +kernel) rfl ?_
                    refine L_appendNone rfl evA evA (by omega) (by omega) ?_
                    refine L_nil ?_; refine ⟨rfl, (by first | exact KeepsH.brk (by decide +kernel) | exact KeepsH.sub subA | exact KeepsH.sub subT), ?_⟩
                    refine AS_at 10 (by decide +kernel) ?_; refine takeA ?_
                    refine AS_done (by decide +kernel) ?_
                    repeat (first | refine stepA ?_ | intro _)
                    refine W_any [(bm, .cells (cutM x mo).cells 29)] [] rfl ?_
                    refine AS_at 0 (by decide +kernel) ?_; refine takeA ?_
                    refine AS_at 1 (by decide +kernel) ?_; refine takeA ?_
                    refine AS_at 2 (by decide +kernel) ?_; refine takeA ?_
                    refine AS_one 3 rfl (by decide +kernel) rfl ?_
                    refine stepA ?_
                    refine L_nil ?_; refine ⟨rfl, (by first | exact KeepsH.brk (by decide +kernel) | exact KeepsH.sub subA | exact KeepsH.sub subT), ?_⟩
                    refine AS_at 4 (by decide +kernel) ?_; refine takeA ?_
                    refine AS_done (by decide +kernel) ?_
                    repeat (first | refine stepA ?_ | intro _)
                    (first | refine retA ?_ | refine retB ?_)
                    refine ⟨_, .inr (.inr ⟨⟨hr, hm0⟩, k, x, rfl, hx, .inr ⟨hbig, none, 0, [], (by rw [show n - 1 = 0 by omega, hto ]; rfl), how3, rfl⟩⟩), subA⟩
                · skip
                  (first | (apply L_P; (· exact rfl); (· exact rfl)) | (apply QL_P; (· exact rfl))); (· (apply P_slSl; (· exact evA); (· exact Bound.of (j := k + 1) rfl (by omega)); (· exact Bound.none); (· omega)))
                  refine L_nil ?_; refine ⟨rfl, (by first | exact KeepsH.brk (by decide +kernel) | exact KeepsH.sub subA | exact KeepsH.sub subT), ?_⟩
                  refine AS_one 3 rfl (by decide +kernel) rfl ?_
                  (first | (apply L_P; (· exact rfl); (· exact rfl)) | (apply QL_P; (· exact rfl))); (· (apply P_slP0; (· exact evA); (· exact Bound.nat rfl); (· omega)))
                  refine L_nil ?_; refine ⟨rfl, (by first | exact KeepsH.brk (by decide +kernel) | exact KeepsH.sub subA | exact KeepsH.sub subT), ?_⟩
                  refine AS_one 4 rfl (by decide +kernel) rfl ?_
                  refine L_appendNone rfl evA evA (by omega) (Nat.le_refl _) ?_
                  refine L_nil ?_; refine ⟨rfl, (by first | exact KeepsH.brk (by decide +kernel) | exact KeepsH.sub subA | exact KeepsH.sub subT), ?_⟩
                  refine AS_one 9 rfl (by decide +kernel) rfl ?_
                  refine L_appendNone rfl evA evA (by omega) (by omega) ?_
                  refine L_nil ?_; refine ⟨rfl, (by first | exact KeepsH.brk (by decide +kernel) | exact KeepsH.sub subA | exact KeepsH.sub subT), ?_⟩
                  refine AS_at 10 (by decide +kernel) ?_; refine takeA ?_
                  refine AS_done (by decide +kernel) ?_
                  repeat (first | refine stepA ?_ | intro _)
                  refine W_any [(bm, .cells (cutM x mo).cells 29)] [] rfl ?_
                  refine AS_at 0 (by decide +kernel) ?_; refine takeA ?_
                  refine AS_at 1 (by decide +kernel) ?_; refine takeA ?_
                  refine AS_at 2 (by decide +kernel) ?_; refine takeA ?_
                  refine AS_one 3 rfl (by decide +kernel) rfl ?_
                  refine stepA ?_
                  refine L_nil ?_; refine ⟨rfl, (by first | exact KeepsH.brk (by decide +kernel) | exact KeepsH.sub subA | exact KeepsH.sub subT), ?_⟩
                  refine AS_at 4 (by decide +kernel) ?_; refine takeA ?_
                  refine AS_done (by decide +kernel) ?_
                  repeat (first | refine stepA ?_ | intro _)
                  (first | refine retA ?_ | refine retB ?_)
                  refine ⟨_, .inr (.inr ⟨⟨hr, hm0⟩, k, x, rfl, hx, .inr ⟨hbig, none, 0, [], (by rw [show n - 1 = 0 by omega, hto ]; rfl), how3, rfl⟩⟩), subA⟩
              · have how3 : ∀ g3 cap3 ys3, cap3 * 2 ≤ ([] ++ mcells (l.drop (k + 1)) ++ ys3).length → 0 + (n - (k + 1)) ≤ cap3 → cap3 ≤ maxLen → oM (some ⟨g3, 0, none⟩) (n - 1) cap3 (l.eraseIdx k) [(g3, .cells ([] ++ mcells (l.drop (k + 1)) ++ ys3) 29)] := by
                  intro g3 cap3 ys3 r1 r2 r3
                  rw [show ([] : List Value) ++ mcells (l.drop (k + 1)) = mcells (l.eraseIdx k) by rw [her, ht0]] at r1 ⊢
                  exact Own.blk (by rw [mcells_len, List.length_eraseIdx_of_lt (by omega)]; omega) r1 (by omega) r3
                refine W_any [(g, .cells (mcells l ++ ys) 29), (bm, .cells (cutM x mo).cells 29)] [] rfl ?_
                refine AS_at 0 (by decide +kernel) ?_; refine takeA ?_
                refine AS_at 1 (by decide +kernel) ?_; refine takeA ?_
                refine AS_at 2 (by decide +kernel) ?_; refine takeA ?_
                refine AS_at 5 (by decide +kernel) ?_; refine takeA ?_
                refine AS_at 6 (by decide +kernel) ?_; refine takeA ?_
                refine AS_at 7 (by decide +kernel) ?_; refine takeA ?_
                refine AS_two 3 8 rfl (by decide +kernel) rfl rfl ?_ ?_
                · skip
                  (first | (apply L_P; (· exact rfl); (· exact rfl)) | (apply QL_P; (· exact rfl))); (· (apply P_slP0; (· exact evA); (· exact Bound.nat rfl); (· omega)))
                  refine L_nil ?_; refine ⟨rfl, (by first | exact KeepsH.brk (by decide +kernel) | exact KeepsH.sub subA | exact KeepsH.sub subT), ?_⟩
                  refine AS_two 4 8 rfl (by decide +kernel) rfl rfl ?_ ?_
                  · skip
                    refine L_appendNone rfl evA evA (by omega) (Nat.le_refl _) ?_
                    refine L_nil ?_; refine ⟨rfl, (by first | exact KeepsH.brk (by decide +kernel) | exact KeepsH.sub subA | exact KeepsH.sub subT), ?_⟩
                    refine AS_one 8 rfl (by decide +kernel) rfl ?_
                    (first | (apply L_P; (· exact rfl); (· exact rfl)) | (apply QL_P; (· exact rfl))); (· (apply P_slSlN; (· exact evA); (· exact Bound.of (j := k + 1) rfl (by omega)); (· exact Bound.none); (· omega); (· omega); (· exact rfl); (· exact rfl)))
                    refine L_nil ?_; refine ⟨rfl, (by first | exact KeepsH.brk (by decide +kernel) | exact KeepsH.sub subA | exact KeepsH.sub subT), ?_⟩
                    refine AS_one 9 rfl (by decide +kernel) rfl ?_
                    apply L_append
                    · exact rfl
                    · exact evA
                    · exact evA
                    · first | exact (Own.nil : Own 29 2 none 0 0 [] []) | exact Own.blk (n := k) (xs := mcells (l.take k)) hlt q1 q2 q3
                    · exact Cut.perm cutA
                    · exact Lies.cells (k := (n - (k + 1)) * 2) (news := mcells (l.drop (k + 1))) pullA hdr
                    · exact hle
                    · exact mcells_one _
                    · omega
                    · simp only [maxLen]; omega
                    · omega
                    · rfl
                    rintro g3 cap3 ys3 r1 r2 r3
                    refine L_nil ?_; refine ⟨rfl, (by first | exact KeepsH.brk (by decide +kernel) | exact KeepsH.sub subA | exact KeepsH.sub subT), ?_⟩
                    refine AS_at 10 (by decide +kernel) ?_; refine takeA ?_
                    refine AS_done (by decide +kernel) ?_
                    repeat (first | refine stepA ?_ | intro _)
                    refine W_any [(bm, .cells (cutM x mo).cells 29)] [] rfl ?_
                    refine AS_at 0 (by decide +kernel) ?_; refine takeA ?_
                    refine AS_at 1 (by decide +kernel) ?_; refine takeA ?_
                    refine AS_at 2 (by decide +kernel) ?_; refine takeA ?_
                    refine AS_one 3 rfl (by decide +kernel) rfl ?_
                    refine stepA ?_
                    refine L_nil ?_; refine ⟨rfl, (by first | exact KeepsH.brk (by decide +kernel) | exact KeepsH.sub subA | exact KeepsH.sub subT), ?_⟩
                    refine AS_at 4 (by decide +kernel) ?_; refine takeA ?_
                    refine AS_done (by decide +kernel) ?_
                    repeat (first | refine stepA ?_ | intro _)
                    (first | refine retA ?_ | refine retB ?_)
                    refine ⟨_, .inr (.inr ⟨⟨hr, hm0⟩, k, x, rfl, hx, .inr ⟨hbig, some ⟨g3, 0, none⟩, cap3, _, (by rw [show n - 1 = 0 + (n - (k + 1)) by omega, hto ]; rfl), how3 g3 cap3 ys3 r1 r2 r3, rfl⟩⟩), subA⟩
                  · skip
                    (first | (apply L_P; (· exact rfl); (· exact rfl)) | (apply QL_P; (· exact rfl))); (· (apply P_slSlN; (· exact evA); (· exact Bound.of (j := k + 1) rfl (by omega)); (· exact Bound.none); (· omega); (· omega); (· exact rfl); (· exact rfl)))
                    refine L_nil ?_; refine ⟨rfl, (by first | exact KeepsH.brk (by decide +kernel) | exact KeepsH.sub subA | exact KeepsH.sub subT), ?_⟩
                    refine AS_one 4 rfl (by decide +kernel) rfl ?_
                    refine L_appendNone rfl evA evA (by omega) (Nat.le_refl _) ?_
                    refine L_nil ?_; refine ⟨rfl, (by first | exact KeepsH.brk (by decide +kernel) | exact KeepsH.sub subA | exact KeepsH.sub subT), ?_⟩
                    refine AS_one 9 rfl (by decide +kernel) rfl ?_
                    apply L_append
                    · exact rfl
                    · exact evA
                    · exact evA
                    · first | exact (Own.nil : Own 29 2 none 0 0 [] []) | exact Own.blk (n := k) (xs := mcells (l.take k)) hlt q1 q2 q3
                    · exact Cut.perm cutA
                    · exact Lies.cells (k := (n - (k + 1)) * 2) (news := mcells (l.drop (k + 1))) pullA hdr
                    · exact hle
                    · exact mcells_one _
                    · omega
                    · simp only [maxLen]; omega
                    · omega
                    · rfl
                    rintro g3 cap3 ys3 r1 r2 r3
                    refine L_nil ?_; refine ⟨rfl, (by first | exact KeepsH.brk (by decide +kernel) | exact KeepsH.sub subA | exact KeepsH.sub subT), ?_⟩
                    refine AS_at 10 (by decide +kernel) ?_; refine takeA ?_
                    refine AS_done (by decide +kernel) ?_
                    repeat (first | refine stepA ?_ | intro _)
                    refine W_any [(bm, .cells (cutM x mo).cells 29)] [] rfl ?_
                    refine AS_at 0 (by decide +kernel) ?_; refine takeA ?_
                    refine AS_at 1 (by decide +kernel) ?_; refine takeA ?_
                    refine AS_at 2 (by decide +kernel) ?_; refine takeA ?_
                    refine AS_one 3 rfl (by decide +kernel) rfl ?_
                    refine stepA ?_
                    refine L_nil ?_; refine ⟨rfl, (by first | exact KeepsH.brk (by decide +kernel) | exact KeepsH.sub subA | exact KeepsH.sub subT), ?_⟩
                    refine AS_at 4 (by decide +kernel) ?_; refine takeA ?_
                    refine AS_done (by decide +kernel) ?_
                    repeat (first | refine stepA ?_ | intro _)
                    (first | refine retA ?_ | refine retB ?_)
                    refine ⟨_, .inr (.inr ⟨⟨hr, hm0⟩, k, x, rfl, hx, .inr ⟨hbig, some ⟨g3, 0, none⟩, cap3, _, (by rw [show n - 1 = 0 + (n - (k + 1)) by omega, hto ]; rfl), how3 g3 cap3 ys3 r1 r2 r3, rfl⟩⟩), subA⟩
                · skip
                  (first | (apply L_P; (· exact rfl); (· exact rfl)) | (apply QL_P; (· exact rfl))); (· (apply P_slSlN; (· exact evA); (· exact Bound.of (j := k + 1) rfl (by omega)); (· exact Bound.none); (· omega); (· omega); (· exact rfl); (· exact rfl)))
                  refine L_nil ?_; refine ⟨rfl, (by first | exact KeepsH.brk (by decide +kernel) | exact KeepsH.sub subA | exact KeepsH.sub subT), ?_⟩
                  refine AS_one 3 rfl (by decide +kernel) rfl ?_
                  (first | (apply L_P; (· exact rfl); (· exact rfl)) | (apply QL_P; (· exact rfl))); (· (apply P_slP0; (· exact evA); (· exact Bound.nat rfl); (· omega)))
                  refine L_nil ?_; refine ⟨rfl, (by first | exact KeepsH.brk (by decide +kernel) | exact KeepsH.sub subA | exact KeepsH.sub subT), ?_⟩
                  refine AS_one 4 rfl (by decide +kernel) rfl ?_
                  refine L_appendNone rfl evA evA (by omega) (Nat.le_refl _) ?_
                  refine L_nil ?_; refine ⟨rfl, (by first | exact KeepsH.brk (by decide +kernel) | exact KeepsH.sub subA | exact KeepsH.sub subT), ?_⟩
                  refine AS_one 9 rfl (by decide +kernel) rfl ?_
                  apply L_append
                  · exact rfl
                  · exact evA
                  · exact evA
                  · first | exact (Own.nil : Own 29 2 none 0 0 [] []) | exact Own.blk (n := k) (xs := mcells (l.take k)) hlt q1 q2 q3
                  · exact Cut.perm cutA
                  · exact Lies.cells (k := (n - (k + 1)) * 2) (news := mcells (l.drop (k + 1))) pullA hdr
                  · exact hle
                  · exact mcells_one _
                  · omega
                  · simp only [maxLen]; omega
                  · omega
                  · rfl
                  rintro g3 cap3 ys3 r1 r2 r3
                  refine L_nil ?_; refine ⟨rfl, (by first | exact KeepsH.brk (by decide +kernel) | exact KeepsH.sub subA | exact KeepsH.sub subT), ?_⟩
                  refine AS_at 10 (by decide +kernel) ?_; refine takeA ?_
                  refine AS_done (by decide +kernel) ?_
                  repeat (first | refine stepA ?_ | intro _)
                  refine W_any [(bm, .cells (cutM x mo).cells 29)] [] rfl ?_
                  refine AS_at 0 (by decide +kernel) ?_; refine takeA ?_
                  refine AS_at 1 (by decide +kernel) ?_; refine takeA ?_
                  refine AS_at 2 (by decide +kernel) ?_; refine takeA ?_
                  refine AS_one 3 rfl (by decide +kernel) rfl ?_
                  refine stepA ?_
                  refine L_nil ?_; refine ⟨rfl, (by first | exact KeepsH.brk (by decide +kernel) | exact KeepsH.sub subA | exact KeepsH.sub subT), ?_⟩
                  refine AS_at 4 (by decide +kernel) ?_; refine takeA ?_
                  refine AS_done (by decide +kernel) ?_
                  repeat (first | refine stepA ?_ | intro _)
                  (first | refine retA ?_ | refine retB ?_)
                  refine ⟨_, .inr (.inr ⟨⟨hr, hm0⟩, k, x, rfl, hx, .inr ⟨hbig, some ⟨g3, 0, none⟩, cap3, _, (by rw [show n - 1 = 0 + (n - (k + 1)) by omega, hto ]; rfl), how3 g3 cap3 ys3 r1 r2 r3, rfl⟩⟩), subA⟩
            · by_cases hk1 : k + 1 = n
              · have hd0 : mcells (l.drop (k + 1)) = [] := List.length_eq_zero_iff.1 (by omega)
                have how3 : ∀ g2 cap2 ys2, cap2 * 2 ≤ (mcells (l.take k) ++ ys2).length → k ≤ cap2 → cap2 ≤ maxLen → oM (some ⟨g2, 0, none⟩) (n - 1) cap2 (l.eraseIdx k) [(g2, .cells (mcells (l.take k) ++ ys2) 29)] := by
                  intro g3 cap3 ys3 r1 r2 r3
                  rw [show mcells (l.take k) = mcells (l.eraseIdx k) by rw [her, hd0, List.append_nil]] at r1 ⊢
                  exact Own.blk (by rw [mcells_len, List.length_eraseIdx_of_lt (by omega)]; omega) r1 (by omega) r3
                refine W_any [(g, .cells (mcells l ++ ys) 29), (bm, .cells (cutM x mo).cells 29)] [] rfl ?_
                refine AS_at 0 (by decide +kernel) ?_; refine takeA ?_
                refine AS_at 1 (by decide +kernel) ?_; refine takeA ?_
                refine AS_at 2 (by decide +kernel) ?_; refine takeA ?_
                refine AS_at 5 (by decide +kernel) ?_; refine takeA ?_
                refine AS_at 6 (by decide +kernel) ?_; refine takeA ?_
                refine AS_at 7 (by decide +kernel) ?_; refine takeA ?_
                refine AS_two 3 8 rfl (by decide +kernel) rfl rfl ?_ ?_
                · skip
                  (first | (apply L_P; (· exact rfl); (· exact rfl)) | (apply QL_P; (· exact rfl))); (· (apply P_slP0; (· exact evA); (· exact Bound.nat rfl); (· omega)))
                  refine L_nil ?_; refine ⟨rfl, (by first | exact KeepsH.brk (by decide +kernel) | exact KeepsH.sub subA | exact KeepsH.sub subT), ?_⟩
                  refine AS_two 4 8 rfl (by decide +kernel) rfl rfl ?_ ?_
                  · skip
                    apply L_append
                    · exact rfl
                    · exact evA
                    · exact evA
                    · exact (Own.nil : Own 29 2 none 0 0 [] [])
                    · exact Cut.perm cutA
                    · exact Lies.cells (k := k * 2) (news := mcells (l.take k)) pullA (by rw [List.drop_zero, hs, List.take_left' hlt])
                    · exact hlt
                    · exact mcells_one _
                    · omega
                    · simp only [maxLen]; omega
                    · omega
                    · rfl
                    rintro g2 cap2 ys2 q1 q2 q3
                    rw [List.nil_append] at q1 ⊢
                    rw [Nat.zero_add] at q2 ⊢
                    refine L_nil ?_; refine ⟨rfl, (by first | exact KeepsH.brk (by decide +kernel) | exact KeepsH.sub subA | exact KeepsH.sub subT), ?_⟩
                    refine AS_one 8 rfl (by decide +kernel) rfl ?_
                    (first | (apply L_P; (· exact rfl); (· exact rfl)) | (apply QL_P; (· exact rfl))); (· (apply P_slSl; (· exact evA); (· exact Bound.of (j := k + 1) rfl (by omega)); (· exact Bound.none); (· omega)))
                    refine L_nil ?_; refine ⟨rfl, (by first | exact KeepsH.brk (by decide +kernel) | exact KeepsH.sub subA | exact KeepsH.sub subT), ?_⟩
                    refine AS_one 9 rfl (by decide +kernel) rfl ?_
                    refine L_appendNone rfl evA evA (by omega) (by omega) ?_
                    refine L_nil ?_; refine ⟨rfl, (by first | exact KeepsH.brk (by decide +kernel) | exact KeepsH.sub subA | exact KeepsH.sub subT), ?_⟩
                    refine AS_at 10 (by decide +kernel) ?_; refine takeA ?_
                    refine AS_done (by decide +kernel) ?_
                    repeat (first | refine stepA ?_ | intro _)
                    refine W_any [(bm, .cells (cutM x mo).cells 29)] [] rfl ?_
                    refine AS_at 0 (by decide +kernel) ?_; refine takeA ?_
                    refine AS_at 1 (by decide +kernel) ?_; refine takeA ?_
                    refine AS_at 2 (by decide +kernel) ?_; refine takeA ?_
                    refine AS_one 3 rfl (by decide +kernel) rfl ?_
                    refine stepA ?_
                    refine L_nil ?_; refine ⟨rfl, (by first | exact KeepsH.brk (by decide +kernel) | exact KeepsH.sub subA | exact KeepsH.sub subT), ?_⟩
                    refine AS_at 4 (by decide +kernel) ?_; refine takeA ?_
                    refine AS_done (by decide +kernel) ?_
                    repeat (first | refine stepA ?_ | intro _)
                    (first | refine retA ?_ | refine retB ?_)
                    refine ⟨_, .inr (.inr ⟨⟨hr, hm0⟩, k, x, rfl, hx, .inr ⟨hbig, some ⟨g2, 0, none⟩, cap2, _, (by rw [show n - 1 = k by omega, hto ]; rfl), how3 g2 cap2 ys2 q1 q2 q3, rfl⟩⟩), subA⟩
                  · skip
                    (first | (apply L_P; (· exact rfl); (· exact rfl)) | (apply QL_P; (· exact rfl))); (· (apply P_slSl; (· exact evA); (· exact Bound.of (j := k + 1) rfl (by omega)); (· exact Bound.none); (· omega)))
                    refine L_nil ?_; refine ⟨rfl, (by first | exact KeepsH.brk (by decide +kernel) | exact KeepsH.sub subA | exact KeepsH.sub subT), ?_⟩
                    refine AS_one 4 rfl (by decide +kernel) rfl ?_
                    apply L_append
                    · exact rfl
                    · exact evA
                    · exact evA
                    · exact (Own.nil : Own 29 2 none 0 0 [] [])
                    · exact Cut.perm cutA
                    · exact Lies.cells (k := k * 2) (news := mcells (l.take k)) pullA (by rw [List.drop_zero, hs, List.take_left' hlt])
                    · exact hlt
                    · exact mcells_one _
                    · omega
                    · simp only [maxLen]; omega
                    · omega
                    · rfl
                    rintro g2 cap2 ys2 q1 q2 q3
                    rw [List.nil_append] at q1 ⊢
                    rw [Nat.zero_add] at q2 ⊢
                    refine L_nil ?_; refine ⟨rfl, (by first | exact KeepsH.brk (by decide +kernel) | exact KeepsH.sub subA | exact KeepsH.sub subT), ?_⟩
                    refine AS_one 9 rfl (by decide +kernel) rfl ?_
                    refine L_appendNone rfl evA evA (by omega) (by omega) ?_
                    refine L_nil ?_; refine ⟨rfl, (by first | exact KeepsH.brk (by decide +kernel) | exact KeepsH.sub subA | exact KeepsH.sub subT), ?_⟩
                    refine AS_at 10 (by decide +kernel) ?_; refine takeA ?_
                    refine AS_done (by decide +kernel) ?_
                    repeat (first | refine stepA ?_ | intro _)
                    refine W_any [(bm, .cells (cutM x mo).cells 29)] [] rfl ?_
                    refine AS_at 0 (by decide +kernel) ?_; refine takeA ?_
                    refine AS_at 1 (by decide +kernel) ?_; refine takeA ?_
                    refine AS_at 2 (by decide +kernel) ?_; refine takeA ?_
                    refine AS_one 3 rfl (by decide +kernel) rfl ?_
                    refine stepA ?_
                    refine L_nil ?_; refine ⟨rfl, (by first | exact KeepsH.brk (by decide +kernel) | exact KeepsH.sub subA | exact KeepsH.sub subT), ?_⟩
                    refine AS_at 4 (by decide +kernel) ?_; refine takeA ?_
                    refine AS_done (by decide +kernel) ?_
                    repeat (first | refine stepA ?_ | intro _)
                    (first | refine retA ?_ | refine retB ?_)
                    refine ⟨_, .inr (.inr ⟨⟨hr, hm0⟩, k, x, rfl, hx, .inr ⟨hbig, some ⟨g2, 0, none⟩, cap2, _, (by rw [show n - 1 = k by omega, hto ]; rfl), how3 g2 cap2 ys2 q1 q2 q3, rfl⟩⟩), subA⟩
                · skip
                  (first | (apply L_P; (· exact rfl); (· exact rfl)) | (apply QL_P; (· exact rfl))); (· (apply P_slSl; (· exact evA); (· exact Bound.of (j := k + 1) rfl (by omega)); (· exact Bound.none); (· omega)))
                  refine L_nil ?_; refine ⟨rfl, (by first | exact KeepsH.brk (by decide +kernel) | exact KeepsH.sub subA | exact KeepsH.sub subT), ?_⟩
                  refine AS_one 3 rfl (by decide +kernel) rfl ?_
                  (first | (apply L_P; (· exact rfl); (· exact rfl)) | (apply QL_P; (· exact rfl))); (· (apply P_slP0; (· exact evA); (· exact Bound.nat rfl); (· omega)))
                  refine L_nil ?_; refine ⟨rfl, (by first | exact KeepsH.brk (by decide +kernel) | exact KeepsH.sub subA | exact KeepsH.sub subT), ?_⟩
                  refine AS_one 4 rfl (by decide +kernel) rfl ?_
                  apply L_append
                  · exact rfl
                  · exact evA
                  · exact evA
                  · exact (Own.nil : Own 29 2 none 0 0 [] [])
                  · exact Cut.perm cutA
                  · exact Lies.cells (k := k * 2) (news := mcells (l.take k)) pullA (by rw [List.drop_zero, hs, List.take_left' hlt])
                  · exact hlt
                  · exact mcells_one _
                  · omega
                  · simp only [maxLen]; omega
                  · omega
                  · rfl
                  rintro g2 cap2 ys2 q1 q2 q3
                  rw [List.nil_append] at q1 ⊢
                  rw [Nat.zero_add] at q2 ⊢
                  refine L_nil ?_; refine ⟨rfl, (by first | exact KeepsH.brk (by decide +kernel) | exact KeepsH.sub subA | exact KeepsH.sub subT), ?_⟩
                  refine AS_one 9 rfl (by decide +kernel) rfl ?_
                  refine L_appendNone rfl evA evA (by omega) (by omega) ?_
                  refine L_nil ?_; refine ⟨rfl, (by first | exact KeepsH.brk (by decide +kernel) | exact KeepsH.sub subA | exact KeepsH.sub subT), ?_⟩
                  refine AS_at 10 (by decide +kernel) ?_; refine takeA ?_
                  refine AS_done (by decide +kernel) ?_
                  repeat (first | refine stepA ?_ | intro _)
                  refine W_any [(bm, .cells (cutM x mo).cells 29)] [] rfl ?_
                  refine AS_at 0 (by decide +kernel) ?_; refine takeA ?_
                  refine AS_at 1 (by decide +kernel) ?_; refine takeA ?_
                  refine AS_at 2 (by decide +kernel) ?_; refine takeA ?_
                  refine AS_one 3 rfl (by decide +kernel) rfl ?_
                  refine stepA ?_
                  refine L_nil ?_; refine ⟨rfl, (by first | exact KeepsH.brk (by decide +kernel) | exact KeepsH.sub subA | exact KeepsH.sub subT), ?_⟩
                  refine AS_at 4 (by decide +kernel) ?_; refine takeA ?_
                  refine AS_done (by decide +kernel) ?_
                  repeat (first | refine stepA ?_ | intro _)
                  (first | refine retA ?_ | refine retB ?_)
                  refine ⟨_, .inr (.inr ⟨⟨hr, hm0⟩, k, x, rfl, hx, .inr ⟨hbig, some ⟨g2, 0, none⟩, cap2, _, (by rw [show n - 1 = k by omega, hto ]; rfl), how3 g2 cap2 ys2 q1 q2 q3, rfl⟩⟩), subA⟩
              · have how3 : ∀ g3 cap3 ys3, cap3 * 2 ≤ (mcells (l.take k) ++ mcells (l.drop (k + 1)) ++ ys3).length → k + (n - (k + 1)) ≤ cap3 → cap3 ≤ maxLen → oM (some ⟨g3, 0, none⟩) (n - 1) cap3 (l.eraseIdx k) [(g3, .cells (mcells (l.take k) ++ mcells (l.drop (k + 1)) ++ ys3) 29)] := by
                  intro g3 cap3 ys3 r1 r2 r3
                  rw [← her] at r1 ⊢
                  exact Own.blk (by rw [mcells_len, List.length_eraseIdx_of_lt (by omega)]; omega) r1 (by omega) r3
                refine W_any [(g, .cells (mcells l ++ ys) 29), (bm, .cells (cutM x mo).cells 29)] [] rfl ?_
                refine AS_at 0 (by decide +kernel) ?_; refine takeA ?_
                refine AS_at 1 (by decide +kernel) ?_; refine takeA ?_
                refine AS_at 2 (by decide +kernel) ?_; refine takeA ?_
                refine AS_at 5 (by decide +kernel) ?_; refine takeA ?_
                refine AS_at 6 (by decide +kernel) ?_; refine takeA ?_
                refine AS_at 7 (by decide +kernel) ?_; refine takeA ?_
                refine AS_two 3 8 rfl (by decide +kernel) rfl rfl ?_ ?_
                · skip
                  (first | (apply L_P; (· exact rfl); (· exact rfl)) | (apply QL_P; (· exact rfl))); (· (apply P_slP0; (· exact evA); (· exact Bound.nat rfl); (· omega)))
                  refine L_nil ?_; refine ⟨rfl, (by first | exact KeepsH.brk (by decide +kernel) | exact KeepsH.sub subA | exact KeepsH.sub subT), ?_⟩
                  refine AS_two 4 8 rfl (by decide +kernel) rfl rfl ?_ ?_
                  · skip
                    apply L_append
                    · exact rfl
                    · exact evA
                    · exact evA
                    · exact (Own.nil : Own 29 2 none 0 0 [] [])
                    · exact Cut.perm cutA
                    · exact Lies.cells (k := k * 2) (news := mcells (l.take k)) pullA (by rw [List.drop_zero, hs, List.take_left' hlt])
                    · exact hlt
                    · exact mcells_one _
                    · omega
                    · simp only [maxLen]; omega
                    · omega
                    · rfl
                    rintro g2 cap2 ys2 q1 q2 q3
                    rw [List.nil_append] at q1 ⊢
                    rw [Nat.zero_add] at q2 ⊢
                    refine L_nil ?_; refine ⟨rfl, (by first | exact KeepsH.brk (by decide +kernel) | exact KeepsH.sub subA | exact KeepsH.sub subT), ?_⟩
                    refine AS_one 8 rfl (by decide +kernel) rfl ?_
                    (first | (apply L_P; (· exact rfl); (· exact rfl)) | (apply QL_P; (· exact rfl))); (· (apply P_slSlN; (· exact evA); (· exact Bound.of (j := k + 1) rfl (by omega)); (· exact Bound.none); (· omega); (· omega); (· exact rfl); (· exact rfl)))
                    refine L_nil ?_; refine ⟨rfl, (by first | exact KeepsH.brk (by decide +kernel) | exact KeepsH.sub subA | exact KeepsH.sub subT), ?_⟩
                    refine AS_one 9 rfl (by decide +kernel) rfl ?_
                    apply L_append
                    · exact rfl
                    · exact evA
                    · exact evA
                    · first | exact (Own.nil : Own 29 2 none 0 0 [] []) | exact Own.blk (n := k) (xs := mcells (l.take k)) hlt q1 q2 q3
                    · exact Cut.perm cutA
                    · exact Lies.cells (k := (n - (k + 1)) * 2) (news := mcells (l.drop (k + 1))) pullA hdr
                    · exact hle
                    · exact mcells_one _
                    · omega
                    · simp only [maxLen]; omega
                    · omega
                    · rfl
                    rintro g3 cap3 ys3 r1 r2 r3
                    refine L_nil ?_; refine ⟨rfl, (by first | exact KeepsH.brk (by decide +kernel) | exact KeepsH.sub subA | exact KeepsH.sub subT), ?_⟩
                    refine AS_at 10 (by decide +kernel) ?_; refine takeA ?_
                    refine AS_done (by decide +kernel) ?_
                    repeat (first | refine stepA ?_ | intro _)
                    refine W_any [(bm, .cells (cutM x mo).cells 29)] [] rfl ?_
                    refine AS_at 0 (by decide +kernel) ?_; refine takeA ?_
                    refine AS_at 1 (by decide +kernel) ?_; refine takeA ?_
                    refine AS_at 2 (by decide +kernel) ?_; refine takeA ?_
                    refine AS_one 3 rfl (by decide +kernel) rfl ?_
                    refine stepA ?_
                    refine L_nil ?_; refine ⟨rfl, (by first | exact KeepsH.brk (by decide +kernel) | exact KeepsH.sub subA | exact KeepsH.sub subT), ?_⟩
                    refine AS_at 4 (by decide +kernel) ?_; refine takeA ?_
                    refine AS_done (by decide +kernel) ?_
                    repeat (first | refine stepA ?_ | intro _)
                    (first | refine retA ?_ | refine retB ?_)
                    refine ⟨_, .inr (.inr ⟨⟨hr, hm0⟩, k, x, rfl, hx, .inr ⟨hbig, some ⟨g3, 0, none⟩, cap3, _, (by rw [show n - 1 = k + (n - (k + 1)) by omega, hto ]; rfl), how3 g3 cap3 ys3 r1 r2 r3, rfl⟩⟩), subA⟩
                  · skip
                    (first | (apply L_P; (· exact rfl); (· exact rfl)) | (apply QL_P; (· exact rfl))); (· (apply P_slSlN; (· exact evA); (· exact Bound.of (j := k + 1) rfl (by omega)); (· exact Bound.none); (· omega); (· omega); (· exact rfl); (· exact rfl)))
                    refine L_nil ?_; refine ⟨rfl, (by first | exact KeepsH.brk (by decide +kernel) | exact KeepsH.sub subA | exact KeepsH.sub subT), ?_⟩
                    refine AS_one 4 rfl (by decide +kernel) rfl ?_
                    apply L_append
                    · exact rfl
                    · exact evA
                    · exact evA
                    · exact (Own.nil : Own 29 2 none 0 0 [] [])
                    · exact Cut.perm cutA
                    · exact Lies.cells (k := k * 2) (news := mcells (l.take k)) pullA (by rw [List.drop_zero, hs, List.take_left' hlt])
                    · exact hlt
                    · exact mcells_one _
                    · omega
                    · simp only [maxLen]; omega
                    · omega
                    · rfl
                    rintro g2 cap2 ys2 q1 q2 q3
                    rw [List.nil_append] at q1 ⊢
                    rw [Nat.zero_add] at q2 ⊢
                    refine L_nil ?_; refine ⟨rfl, (by first | exact KeepsH.brk (by decide +kernel) | exact KeepsH.sub subA | exact KeepsH.sub subT), ?_⟩
                    refine AS_one 9 rfl (by decide +kernel) rfl ?_
                    apply L_append
                    · exact rfl
                    · exact evA
                    · exact evA
                    · first | exact (Own.nil : Own 29 2 none 0 0 [] []) | exact Own.blk (n := k) (xs := mcells (l.take k)) hlt q1 q2 q3
                    · exact Cut.perm cutA
                    · exact Lies.cells (k := (n - (k + 1)) * 2) (news := mcells (l.drop (k + 1))) pullA hdr
                    · exact hle
                    · exact mcells_one _
                    · omega
                    · simp only [maxLen]; omega
                    · omega
                    · rfl
                    rintro g3 cap3 ys3 r1 r2 r3
                    refine L_nil ?_; refine ⟨rfl, (by first | exact KeepsH.brk (by decide +kernel) | exact KeepsH.sub subA | exact KeepsH.sub subT), ?_⟩
                    refine AS_at 10 (by decide +kernel) ?_; refine takeA ?_
                    refine AS_done (by decide +kernel) ?_
                    repeat (first | refine stepA ?_ | intro _)
                    refine W_any [(bm, .cells (cutM x mo).cells 29)] [] rfl ?_
                    refine AS_at 0 (by decide +kernel) ?_; refine takeA ?_
                    refine AS_at 1 (by decide +kernel) ?_; refine takeA ?_
                    refine AS_at 2 (by decide +kernel) ?_; refine takeA ?_
                    refine AS_one 3 rfl (by decide +kernel) rfl ?_
                    refine stepA ?_
                    refine L_nil ?_; refine ⟨rfl, (by first | exact KeepsH.brk (by decide +kernel) | exact KeepsH.sub subA | exact KeepsH.sub subT), ?_⟩
                    refine AS_at 4 (by decide +kernel) ?_; refine takeA ?_
                    refine AS_done (by decide +kernel) ?_
                    repeat (first | refine stepA ?_ | intro _)
                    (first | refine retA ?_ | refine retB ?_)
                    refine ⟨_, .inr (.inr ⟨⟨hr, hm0⟩, k, x, rfl, hx, .inr ⟨hbig, some ⟨g3, 0, none⟩, cap3, _, (by rw [show n - 1 = k + (n - (k + 1)) by omega, hto ]; rfl), how3 g3 cap3 ys3 r1 r2 r3, rfl⟩⟩), subA⟩
                · skip
                  (first | (apply L_P; (· exact rfl); (· exact rfl)) | (apply QL_P; (· exact rfl))); (· (apply P_slSlN; (· exact evA); (· exact Bound.of (j := k + 1) rfl (by omega)); (· exact Bound.none); (· omega); (· omega); (· exact rfl); (· exact rfl)))
                  refine L_nil ?_; refine ⟨rfl, (by first | exact KeepsH.brk (by decide +kernel) | exact KeepsH.sub subA | exact KeepsH.sub subT), ?_⟩
                  refine AS_one 3 rfl (by decide +kernel) rfl ?_
                  (first | (apply L_P; (· exact rfl); (· exact rfl)) | (apply QL_P; (· exact rfl))); (· (apply P_slP0; (· exact evA); (· exact Bound.nat rfl); (· omega)))
                  refine L_nil ?_; refine ⟨rfl, (by first | exact KeepsH.brk (by decide +kernel) | exact KeepsH.sub subA | exact KeepsH.sub subT), ?_⟩
                  refine AS_one 4 rfl (by decide +kernel) rfl ?_
                  apply L_append
                  · exact rfl
                  · exact evA
                  · exact evA
                  · exact (Own.nil : Own 29 2 none 0 0 [] [])
                  · exact Cut.perm cutA
                  · exact Lies.cells (k := k * 2) (news := mcells (l.take k)) pullA (by rw [List.drop_zero, hs, List.take_left' hlt])
                  · exact hlt
                  · exact mcells_one _
                  · omega
                  · simp only [maxLen]; omega
                  · omega
                  · rfl
                  rintro g2 cap2 ys2 q1 q2 q3
                  rw [List.nil_append] at q1 ⊢
                  rw [Nat.zero_add] at q2 ⊢
                  refine L_nil ?_; refine ⟨rfl, (by first | exact KeepsH.brk (by decide +kernel) | exact KeepsH.sub subA | exact KeepsH.sub subT), ?_⟩
                  refine AS_one 9 rfl (by decide +kernel) rfl ?_
                  apply L_append
                  · exact rfl
                  · exact evA
                  · exact evA
                  · first | exact (Own.nil : Own 29 2 none 0 0 [] []) | exact Own.blk (n := k) (xs := mcells (l.take k)) hlt q1 q2 q3
                  · exact Cut.perm cutA
                  · exact Lies.cells (k := (n - (k + 1)) * 2) (news := mcells (l.drop (k + 1))) pullA hdr
                  · exact hle
                  · exact mcells_one _
                  · omega
                  · simp only [maxLen]; omega
                  · omega
                  · rfl
                  rintro g3 cap3 ys3 r1 r2 r3
                  refine L_nil ?_; refine ⟨rfl, (by first | exact KeepsH.brk (by decide +kernel) | exact KeepsH.sub subA | exact KeepsH.sub subT), ?_⟩
                  refine AS_at 10 (by decide +kernel) ?_; refine takeA ?_
                  refine AS_done (by decide +kernel) ?_
                  repeat (first | refine stepA ?_ | intro _)
                  refine W_any [(bm, .cells (cutM x mo).cells 29)] [] rfl ?_
                  refine AS_at 0 (by decide +kernel) ?_; refine takeA ?_
                  refine AS_at 1 (by decide +kernel) ?_; refine takeA ?_
                  refine AS_at 2 (by decide +kernel) ?_; refine takeA ?_
                  refine AS_one 3 rfl (by decide +kernel) rfl ?_
                  refine stepA ?_
                  refine L_nil ?_; refine ⟨rfl, (by first | exact KeepsH.brk (by decide +kernel) | exact KeepsH.sub subA | exact KeepsH.sub subT), ?_⟩
                  refine AS_at 4 (by decide +kernel) ?_; refine takeA ?_
                  refine AS_done (by decide +kernel) ?_
                  repeat (first | refine stepA ?_ | intro _)
                  (first | refine retA ?_ | refine retB ?_)
                  refine ⟨_, .inr (.inr ⟨⟨hr, hm0⟩, k, x, rfl, hx, .inr ⟨hbig, some ⟨g3, 0, none⟩, cap3, _, (by rw [show n - 1 = k + (n - (k + 1)) by omega, hto ]; rfl), how3 g3 cap3 ys3 r1 r2 r3, rfl⟩⟩), subA⟩
        · have hbig : ¬ ((x.d.length : Int) > (mo : Int) ∧ isCut = false) := fun h => hgt h.1
          have hcm2 : cutM x mo = x := by
            obtain ⟨t, d⟩ := x
            simp only [cutM, MsgV.mk.injEq, true_and]
            exact List.take_of_length_le (by simp only at hgt; omega)
          repeat (first | refine stepA ?_ | intro _)
          rename_i bz _ bm
          by_cases hk0 : k = 0
          · have ht0 : mcells (l.take k) = [] := List.length_eq_zero_iff.1 (by omega)
            by_cases hk1 : k + 1 = n
            · have hd0 : mcells (l.drop (k + 1)) = [] := List.length_eq_zero_iff.1 (by omega)
              have how3 : oM none (n - 1) 0 (l.eraseIdx k) [] := by
                rw [show n - 1 = 0 by omega]
                have : l.eraseIdx k = [] := List.eq_nil_of_length_eq_zero (by rw [List.length_eraseIdx_of_lt (by omega)]; omega)
                rw [this]; exact Own.nil
              refine W_any [(g, .cells (mcells l ++ ys) 29), (bm, .cells x.cells 29)] [] rfl ?_
              refine AS_at 0 (by decide +kernel) ?_; refine takeA ?_
              refine AS_at 1 (by decide +kernel) ?_; refine takeA ?_
              refine AS_at 2 (by decide +kernel) ?_; refine takeA ?_
              refine AS_at 5 (by decide +kernel) ?_; refine takeA ?_
              refine AS_at 6 (by decide +kernel) ?_; refine takeA ?_
              refine AS_at 7 (by decide +kernel) ?_; refine takeA ?_
              refine AS_two 3 8 rfl (by decide +kernel) rfl rfl ?_ ?_
              · skip
                (first | (apply L_P; (· exact rfl); (· exact rfl)) | (apply QL_P; (· exact rfl))); (· (apply P_slP0; (· exact evA); (· exact Bound.nat rfl); (· omega)))
                refine L_nil ?_; refine ⟨rfl, (by first | exact KeepsH.brk (by decide +kernel) | exact KeepsH.sub subA | exact KeepsH.sub subT), ?_⟩
                refine AS_two 4 8 rfl (by decide +kernel) rfl rfl ?_ ?_
                · skip
                  refine L_appendNone rfl evA evA (by omega) (Nat.le_refl _) ?_
                  refine L_nil ?_; refine ⟨rfl, (by first | exact KeepsH.brk (by decide +kernel) | exact KeepsH.sub subA | exact KeepsH.sub subT), ?_⟩
                  refine AS_one 8 rfl (by decide +kernel) rfl ?_
                  (first | (apply L_P; (· exact rfl); (· exact rfl)) | (apply QL_P; (· exact rfl))); (· (apply P_slSl; (· exact evA); (· exact Bound.of (j := k + 1) rfl (by omega)); (· exact Bound.none); (· omega)))
                  refine L_nil ?_; refine ⟨rfl, (by first | exact KeepsH.brk (by decide +kernel) | exact KeepsH.sub subA | exact KeepsH.sub subT), ?_⟩
                  refine AS_one 9 rfl (by decide +kernel) rfl ?_
                  refine L_appendNone rfl evA evA (by omega) (by omega) ?_
                  refine L_nil ?_; refine ⟨rfl, (by first | exact KeepsH.brk (by decide +kernel) | exact KeepsH.sub subA | exact KeepsH.sub subT), ?_⟩
                  refine AS_at 10 (by decide +kernel) ?_; refine takeA ?_
                  refine AS_done (by decide +kernel) ?_
                  repeat (first | refine stepA ?_ | intro _)
                  refine W_any [(bm, .cells x.cells 29)] [] rfl ?_
                  refine AS_at 0 (by decide +kernel) ?_; refine takeA ?_
                  refine AS_at 1 (by decide +kernel) ?_; refine takeA ?_
                  refine AS_at 2 (by decide +kernel) ?_; refine takeA ?_
                  refine AS_one 3 rfl (by decide +kernel) rfl ?_
                  refine stepA ?_
                  refine L_nil ?_; refine ⟨rfl, (by first | exact KeepsH.brk (by decide +kernel) | exact KeepsH.sub subA | exact KeepsH.sub subT), ?_⟩
                  refine AS_at 4 (by decide +kernel) ?_; refine takeA ?_
                  refine AS_done (by decide +kernel) ?_
                  repeat (first | refine stepA ?_ | intro _)
                  (first | refine retA ?_ | refine retB ?_)
                  refine ⟨_, .inr (.inr ⟨⟨hr, hm0⟩, k, x, rfl, hx, .inr ⟨hbig, none, 0, [], (by rw [show n - 1 = 0 by omega, hto, hcm2]; rfl), how3, rfl⟩⟩), subA⟩
                · skip
                  (first | (apply L_P; (· exact rfl); (· exact rfl)) | (apply QL_P; (· exact rfl))); (· (apply P_slSl; (· exact evA); (· exact Bound.of (j := k + 1) rfl (by omega)); (· exact Bound.none); (· omega)))
                  refine L_nil ?_; refine ⟨rfl, (by first | exact KeepsH.brk (by decide +kernel) | exact KeepsH.sub subA | exact KeepsH.sub subT), ?_⟩
                  refine AS_one 4 rfl (by decide +kernel) rfl ?_
                  refine L_appendNone rfl evA evA (by omega) (Nat.le_refl _) ?_
                  refine L_nil ?_; refine ⟨rfl, (by first | exact KeepsH.brk (by decide +kernel) | exact KeepsH.sub subA | exact KeepsH.sub subT), ?_⟩
                  refine AS_one 9 rfl (by decide +kernel) rfl ?_
                  refine L_appendNone rfl evA evA (by omega) (by omega) ?_
                  refine L_nil ?_; refine ⟨rfl, (by first | exact KeepsH.brk (by decide +kernel) | exact KeepsH.sub subA | exact KeepsH.sub subT), ?_⟩
                  refine AS_at 10 (by decide +kernel) ?_; refine takeA ?_
                  refine AS_done (by decide +kernel) ?_
                  repeat (first | refine stepA ?_ | intro _)
                  refine W_any [(bm, .cells x.cells 29)] [] rfl ?_
                  refine AS_at 0 (by decide +kernel) ?_; refine takeA ?_
                  refine AS_at 1 (by decide +kernel) ?_; refine takeA ?_
                  refine AS_at 2 (by decide +kernel) ?_; refine takeA ?_
                  refine AS_one 3 rfl (by decide +kernel) rfl ?_
                  refine stepA ?_
                  refine L_nil ?_; refine ⟨rfl, (by first | exact KeepsH.brk (by decide +kernel) | exact KeepsH.sub subA | exact KeepsH.sub subT), ?_⟩
                  refine AS_at 4 (by decide +kernel) ?_; refine takeA ?_
                  refine AS_done (by decide +kernel) ?_
                  repeat (first | refine stepA ?_ | intro _)
                  (first | refine retA ?_ | refine retB ?_)
                  refine ⟨_, .inr (.inr ⟨⟨hr, hm0⟩, k, x, rfl, hx, .inr ⟨hbig, none, 0, [], (by rw [show n - 1 = 0 by omega, hto, hcm2]; rfl), how3, rfl⟩⟩), subA⟩
              · skip
                (first | (apply L_P; (· exact rfl); (· exact rfl)) | (apply QL_P; (· exact rfl))); (· (apply P_slSl; (· exact evA); (· exact Bound.of (j := k + 1) rfl (by omega)); (· exact Bound.none); (· omega)))
                refine L_nil ?_; refine ⟨rfl, (by first | exact KeepsH.brk (by decide +kernel) | exact KeepsH.sub subA | exact KeepsH.sub subT), ?_⟩
                refine AS_one 3 rfl (by decide +kernel) rfl ?_
                (first | (apply L_P; (· exact rfl); (· exact rfl)) | (apply QL_P; (· exact rfl))); (· (apply P_slP0; (· exact evA); (· exact Bound.nat rfl); (· omega)))
                refine L_nil ?_; refine ⟨rfl, (by first | exact KeepsH.brk (by decide +kernel) | exact KeepsH.sub subA | exact KeepsH.sub subT), ?_⟩
                refine AS_one 4 rfl (by decide +kernel) rfl ?_
                refine L_appendNone rfl evA evA (by omega) (Nat.le_refl _) ?_
                refine L_nil ?_; refine ⟨rfl, (by first | exact KeepsH.brk (by decide +kernel) | exact KeepsH.sub subA | exact KeepsH.sub subT), ?_⟩
                refine AS_one 9 rfl (by decide +kernel) rfl ?_
                refine L_appendNone rfl evA evA (by omega) (by omega) ?_
                refine L_nil ?_; refine ⟨rfl, (by first | exact KeepsH.brk (by decide +kernel) | exact KeepsH.sub subA | exact KeepsH.sub subT), ?_⟩
                refine AS_at 10 (by decide +kernel) ?_; refine takeA ?_
                refine AS_done (by decide +kernel) ?_
                repeat (first | refine stepA ?_ | intro _)
                refine W_any [(bm, .cells x.cells 29)] [] rfl ?_
                refine AS_at 0 (by decide +kernel) ?_; refine takeA ?_
                refine AS_at 1 (by decide +kernel) ?_; refine takeA ?_
                refine AS_at 2 (by decide +kernel) ?_; refine takeA ?_
                refine AS_one 3 rfl (by decide +kernel) rfl ?_
                refine stepA ?_
                refine L_nil ?_; refine ⟨rfl, (by first | exact KeepsH.brk (by decide +kernel) | exact KeepsH.sub subA | exact KeepsH.sub subT), ?_⟩
                refine AS_at 4 (by decide +kernel) ?_; refine takeA ?_
                refine AS_done (by decide +kernel) ?_
                repeat (first | refine stepA ?_ | intro _)
                (first | refine retA ?_ | refine retB ?_)
                refine ⟨_, .inr (.inr ⟨⟨hr, hm0⟩, k, x, rfl, hx, .inr ⟨hbig, none, 0, [], (by rw [show n - 1 = 0 by omega, hto, hcm2]; rfl), how3, rfl⟩⟩), subA⟩
            · have how3 : ∀ g3 cap3 ys3, cap3 * 2 ≤ ([] ++ mcells (l.drop (k + 1)) ++ ys3).length → 0 + (n - (k + 1)) ≤ cap3 → cap3 ≤ maxLen → oM (some ⟨g3, 0, none⟩) (n - 1) cap3 (l.eraseIdx k) [(g3, .cells ([] ++ mcells (l.drop (k + 1)) ++ ys3) 29)] := by
                intro g3 cap3 ys3 r1 r2 r3
                rw [show ([] : List Value) ++ mcells (l.drop (k + 1)) = mcells (l.eraseIdx k) by rw [her, ht0]] at r1 ⊢
                exact Own.blk (by rw [mcells_len, List.length_eraseIdx_of_lt (by omega)]; omega) r1 (by omega) r3
              refine W_any [(g, .cells (mcells l ++ ys) 29), (bm, .cells x.cells 29)] [] rfl ?_
              refine AS_at 0 (by decide +kernel) ?_; refine takeA ?_
              refine AS_at 1 (by decide +kernel) ?_; refine takeA ?_
              refine AS_at 2 (by decide +kernel) ?_; refine takeA ?_
              refine AS_at 5 (by decide +kernel) ?_; refine takeA ?_
              refine AS_at 6 (by decide +kernel) ?_; refine takeA ?_
              refine AS_at 7 (by decide +kernel) ?_; refine takeA ?_
              refine AS_two 3 8 rfl (by decide +kernel) rfl rfl ?_ ?_
              · skip
                (first | (apply L_P; (· exact rfl); (· exact rfl)) | (apply QL_P; (· exact rfl))); (· (apply P_slP0; (· exact evA); (· exact Bound.nat rfl); (· omega)))
                refine L_nil ?_; refine ⟨rfl, (by first | exact KeepsH.brk (by decide +kernel) | exact KeepsH.sub subA | exact KeepsH.sub subT), ?_⟩
                refine AS_two 4 8 rfl (by decide +kernel) rfl rfl ?_ ?_
                · skip
                  refine L_appendNone rfl evA evA (by omega) (Nat.le_refl _) ?_
                  refine L_nil ?_; refine ⟨rfl, (by first | exact KeepsH.brk (by decide +kernel) | exact KeepsH.sub subA | exact KeepsH.sub subT), ?_⟩
                  refine AS_one 8 rfl (by decide +kernel) rfl ?_
                  (first | (apply L_P; (· exact rfl); (· exact rfl)) | (apply QL_P; (· exact rfl))); (· (apply P_slSlN; (· exact evA); (· exact Bound.of (j := k + 1) rfl (by omega)); (· exact Bound.none); (· omega); (· omega); (· exact rfl); (· exact rfl)))
                  refine L_nil ?_; refine ⟨rfl, (by first | exact KeepsH.brk (by decide +kernel) | exact KeepsH.sub subA | exact KeepsH.sub subT), ?_⟩
                  refine AS_one 9 rfl (by decide +kernel) rfl ?_
                  apply L_append
                  · exact rfl
                  · exact evA
                  · exact evA
                  · first | exact (Own.nil : Own 29 2 none 0 0 [] []) | exact Own.blk (n := k) (xs := mcells (l.take k)) hlt q1 q2 q3
                  · exact Cut.perm cutA
                  · exact Lies.cells (k := (n - (k + 1)) * 2) (news := mcells (l.drop (k + 1))) pullA hdr
                  · exact hle
                  · exact mcells_one _
                  · omega
                  · simp only [maxLen]; omega
                  · omega
                  · rfl
                  rintro g3 cap3 ys3 r1 r2 r3
                  refine L_nil ?_; refine ⟨rfl, (by first | exact KeepsH.brk (by decide +kernel) | exact KeepsH.sub subA | exact KeepsH.sub subT), ?_⟩
                  refine AS_at 10 (by decide +kernel) ?_; refine takeA ?_
                  refine AS_done (by decide +kernel) ?_
                  repeat (first | refine stepA ?_ | intro _)
                  refine W_any [(bm, .cells x.cells 29)] [] rfl ?_
                  refine AS_at 0 (by decide +kernel) ?_; refine takeA ?_
                  refine AS_at 1 (by decide +kernel) ?_; refine takeA ?_
                  refine AS_at 2 (by decide +kernel) ?_; refine takeA ?_
                  refine AS_one 3 rfl (by decide +kernel) rfl ?_
                  refine stepA ?_
                  refine L_nil ?_; refine ⟨rfl, (by first | exact KeepsH.brk (by decide +kernel) | exact KeepsH.sub subA | exact KeepsH.sub subT), ?_⟩
                  refine AS_at 4 (by decide +kernel) ?_; refine takeA ?_
                  refine AS_done (by decide +kernel) ?_
                  repeat (first | refine stepA ?_ | intro _)
                  (first | refine retA ?_ | refine retB ?_)
                  refine ⟨_, .inr (.inr ⟨⟨hr, hm0⟩, k, x, rfl, hx, .inr ⟨hbig, some ⟨g3, 0, none⟩, cap3, _, (by rw [show n - 1 = 0 + (n - (k + 1)) by omega, hto, hcm2]; rfl), how3 g3 cap3 ys3 r1 r2 r3, rfl⟩⟩), subA⟩
                · skip
                  (first | (apply L_P; (· exact rfl); (· exact rfl)) | (apply QL_P; (· exact rfl))); (· (apply P_slSlN; (· exact evA); (· exact Bound.of (j := k + 1) rfl (by omega)); (· exact Bound.none); (· omega); (· omega); (· exact rfl); (· exact rfl)))
                  refine L_nil ?_; refine ⟨rfl, (by first | exact KeepsH.brk (by decide +kernel) | exact KeepsH.sub subA | exact KeepsH.sub subT), ?_⟩
                  refine AS_one 4 rfl (by decide +kernel) rfl ?_
                  refine L_appendNone rfl evA evA (by omega) (Nat.le_refl _) ?_
                  refine L_nil ?_; refine ⟨rfl, (by first | exact KeepsH.brk (by decide +kernel) | exact KeepsH.sub subA | exact KeepsH.sub subT), ?_⟩
                  refine AS_one 9 rfl (by decide +kernel) rfl ?_
                  apply L_append
                  · exact rfl
                  · exact evA
                  · exact evA
                  · first | exact (Own.nil : Own 29 2 none 0 0 [] []) | exact Own.blk (n := k) (xs := mcells (l.take k)) hlt q1 q2 q3
                  · exact Cut.perm cutA
                  · exact Lies.cells (k := (n - (k + 1)) * 2) (news := mcells (l.drop (k + 1))) pullA hdr
                  · exact hle
                  · exact mcells_one _
                  · omega
                  · simp only [maxLen]; omega
                  · omega
                  · rfl
                  rintro g3 cap3 ys3 r1 r2 r3
                  refine L_nil ?_; refine ⟨rfl, (by first | exact KeepsH.brk (by decide +kernel) | exact KeepsH.sub subA | exact KeepsH.sub subT), ?_⟩
                  refine AS_at 10 (by decide +kernel) ?_; refine takeA ?_
                  refine AS_done (by decide +kernel) ?_
                  repeat (first | refine stepA ?_ | intro _)
                  refine W_any [(bm, .cells x.cells 29)] [] rfl ?_
                  refine AS_at 0 (by decide +kernel) ?_; refine takeA ?_
                  refine AS_at 1 (by decide +kernel) ?_; refine takeA ?_
                  refine AS_at 2 (by decide +kernel) ?_; refine takeA ?_
                  refine AS_one 3 rfl (by decide +kernel) rfl ?_
                  refine stepA ?_
                  refine L_nil ?_; refine ⟨rfl, (by first | exact KeepsH.brk (by decide +kernel) | exact KeepsH.sub subA | exact KeepsH.sub subT), ?_⟩
                  refine AS_at 4 (by decide +kernel) ?_; refine takeA ?_
                  refine AS_done (by decide +kernel) ?_
                  repeat (first | refine stepA ?_ | intro _)
                  (first | refine retA ?_ | refine retB ?_)
                  refine ⟨_, .inr (.inr ⟨⟨hr, hm0⟩, k, x, rfl, hx, .inr ⟨hbig, some ⟨g3, 0, none⟩, cap3, _, (by rw [show n - 1 = 0 + (n - (k + 1)) by omega, hto, hcm2]; rfl), how3 g3 cap3 ys3 r1 r2 r3, rfl⟩⟩), subA⟩
              · skip
                (first | (apply L_P; (· exact rfl); (· exact rfl)) | (apply QL_P; (· exact rfl))); (· (apply P_slSlN; (· exact evA); (· exact Bound.of (j := k + 1) rfl (by omega)); (· exact Bound.none); (· omega); (· omega); (· exact rfl); (· exact rfl)))
                refine L_nil ?_; refine ⟨rfl, (by first | exact KeepsH.brk (by decide +kernel) | exact KeepsH.sub subA | exact KeepsH.sub subT), ?_⟩
                refine AS_one 3 rfl (by decide +kernel) rfl ?_
                (first | (apply L_P; (· exact rfl); (· exact rfl)) | (apply QL_P; (· exact rfl))); (· (apply P_slP0; (· exact evA); (· exact Bound.nat rfl); (· omega)))
                refine L_nil ?_; refine ⟨rfl, (by first | exact KeepsH.brk (by decide +kernel) | exact KeepsH.sub subA | exact KeepsH.sub subT), ?_⟩
                refine AS_one 4 rfl (by decide +kernel) rfl ?_
                refine L_appendNone rfl evA evA (by omega) (Nat.le_refl _) ?_
                refine L_nil ?_; refine ⟨rfl, (by first | exact KeepsH.brk (by decide +kernel) | exact KeepsH.sub subA | exact KeepsH.sub subT), ?_⟩
                refine AS_one 9 rfl (by decide +kernel) rfl ?_
                apply L_append
                · exact rfl
                · exact evA
                · exact evA
                · first | exact (Own.nil : Own 29 2 none 0 0 [] []) | exact Own.blk (n := k) (xs := mcells (l.take k)) hlt q1 q2 q3
                · exact Cut.perm cutA
                · exact Lies.cells (k := (n - (k + 1)) * 2) (news := mcells (l.drop (k + 1))) pullA hdr
                · exact hle
                · exact mcells_one _
                · omega
                · simp only [maxLen]; omega
                · omega
                · rfl
                rintro g3 cap3 ys3 r1 r2 r3
                refine L_nil ?_; refine ⟨rfl, (by first | exact KeepsH.brk (by decide +kernel) | exact KeepsH.sub subA | exact KeepsH.sub subT), ?_⟩
                refine AS_at 10 (by decide +kernel) ?_; refine takeA ?_
                refine AS_done (by decide +kernel) ?_
                repeat (first | refine stepA ?_ | intro _)
                refine W_any [(bm, .cells x.cells 29)] [] rfl ?_
                refine AS_at 0 (by decide +kernel) ?_; refine takeA ?_
                refine AS_at 1 (by decide +kernel) ?_; refine takeA ?_
                refine AS_at 2 (by decide +kernel) ?_; refine takeA ?_
                refine AS_one 3 rfl (by decide +kernel) rfl ?_
                refine stepA ?_
                refine L_nil ?_; refine ⟨rfl, (by first | exact KeepsH.brk (by decide +kernel) | exact KeepsH.sub subA | exact KeepsH.sub subT), ?_⟩
                refine AS_at 4 (by decide +kernel) ?_; refine takeA ?_
                refine AS_done (by decide +kernel) ?_
                repeat (first | refine stepA ?_ | intro _)
                (first | refine retA ?_ | refine retB ?_)
                refine ⟨_, .inr (.inr ⟨⟨hr, hm0⟩, k, x, rfl, hx, .inr ⟨hbig, some ⟨g3, 0, none⟩, cap3, _, (by rw [show n - 1 = 0 + (n - (k + 1)) by omega, hto, hcm2]; rfl), how3 g3 cap3 ys3 r1 r2 r3, rfl⟩⟩), subA⟩
          · by_cases hk1 : k + 1 = n
            · have hd0 : mcells (l.drop (k + 1)) = [] := List.length_eq_zero_iff.1 (by omega)
              have how3 : ∀ g2 cap2 ys2, cap2 * 2 ≤ (mcells (l.take k) ++ ys2).length → k ≤ cap2 → cap2 ≤ maxLen → oM (some ⟨g2, 0, none⟩) (n - 1) cap2 (l.eraseIdx k) [(g2, .cells (mcells (l.take k) ++ ys2) 29)] := by
                intro g3 cap3 ys3 r1 r2 r3
                rw [show mcells (l.take k) = mcells (l.eraseIdx k) by rw [her, hd0, List.append_nil]] at r1 ⊢
                exact Own.blk (by rw [mcells_len, List.length_eraseIdx_of_lt (by omega)]; omega) r1 (by omega) r3
              refine W_any [(g, .cells (mcells l ++ ys) 29), (bm, .cells x.cells 29)] [] rfl ?_
              refine AS_at 0 (by decide +kernel) ?_; refine takeA ?_
              refine AS_at 1 (by decide +kernel) ?_; refine takeA ?_
              refine AS_at 2 (by decide +kernel) ?_; refine takeA ?_
              refine AS_at 5 (by decide +kernel) ?_; refine takeA ?_
              refine AS_at 6 (by decide +kernel) ?_; refine takeA ?_
              refine AS_at 7 (by decide +kernel) ?_; refine takeA ?_
              refine AS_two 3 8 rfl (by decide +kernel) rfl rfl ?_ ?_
              · skip
                (first | (apply L_P; (· exact rfl); (· exact rfl)) | (apply QL_P; (· exact rfl))); (· (apply P_slP0; (· exact evA); (· exact Bound.nat rfl); (· omega)))
                refine L_nil ?_; refine ⟨rfl, (by first | exact KeepsH.brk (by decide +kernel) | exact KeepsH.sub subA | exact KeepsH.sub subT), ?_⟩
                refine AS_two 4 8 rfl (by decide +kernel) rfl rfl ?_ ?_
                · skip
                  apply L_append
                  · exact rfl
                  · exact evA
                  · exact evA
                  · exact (Own.nil : Own 29 2 none 0 0 [] [])
                  · exact Cut.perm cutA
                  · exact Lies.cells (k := k * 2) (news := mcells (l.take k)) pullA (by rw [List.drop_zero, hs, List.take_left' hlt])
                  · exact hlt
                  · exact mcells_one _
                  · omega
                  · simp only [maxLen]; omega
                  · omega
                  · rfl
                  rintro g2 cap2 ys2 q1 q2 q3
                  rw [List.nil_append] at q1 ⊢
                  rw [Nat.zero_add] at q2 ⊢
                  refine L_nil ?_; refine ⟨rfl, (by first | exact KeepsH.brk (by decide +kernel) | exact KeepsH.sub subA | exact KeepsH.sub subT), ?_⟩
                  refine AS_one 8 rfl (by decide +kernel) rfl ?_
                  (first | (apply L_P; (· exact rfl); (· exact rfl)) | (apply QL_P; (· exact rfl))); (· (apply P_slSl; (· exact evA); (· exact Bound.of (j := k + 1) rfl (by omega)); (· exact Bound.none); (· omega)))
                  refine L_nil ?_; refine ⟨rfl, (by first | exact KeepsH.brk (by decide +kernel) | exact KeepsH.sub subA | exact KeepsH.sub subT), ?_⟩
                  refine AS_one 9 rfl (by decide +kernel) rfl ?_
                  refine L_appendNone rfl evA evA (by omega) (by omega) ?_
                  refine L_nil ?_; refine ⟨rfl, (by first | exact KeepsH.brk (by decide +kernel) | exact KeepsH.sub subA | exact KeepsH.sub subT), ?_⟩
                  refine AS_at 10 (by decide +kernel) ?_; refine takeA ?_
                  refine AS_done (by decide +kernel) ?_
                  repeat (first | refine stepA ?_ | intro _)
                  refine W_any [(bm, .cells x.cells 29)] [] rfl ?_
                  refine AS_at 0 (by decide +kernel) ?_; refine takeA ?_
                  refine AS_at 1 (by decide +kernel) ?_; refine takeA ?_
                  refine AS_at 2 (by decide +kernel) ?_; refine takeA ?_
                  refine AS_one 3 rfl (by decide +kernel) rfl ?_
                  refine stepA ?_
                  refine L_nil ?_; refine ⟨rfl, (by first | exact KeepsH.brk (by decide +kernel) | exact KeepsH.sub subA | exact KeepsH.sub subT), ?_⟩
                  refine AS_at 4 (by decide +kernel) ?_; refine takeA ?_
                  refine AS_done (by decide +kernel) ?_
                  repeat (first | refine stepA ?_ | intro _)
                  (first | refine retA ?_ | refine retB ?_)
                  refine ⟨_, .inr (.inr ⟨⟨hr, hm0⟩, k, x, rfl, hx, .inr ⟨hbig, some ⟨g2, 0, none⟩, cap2, _, (by rw [show n - 1 = k by omega, hto, hcm2]; rfl), how3 g2 cap2 ys2 q1 q2 q3, rfl⟩⟩), subA⟩
                · skip
                  (first | (apply L_P; (· exact rfl); (· exact rfl)) | (apply QL_P; (· exact rfl))); (· (apply P_slSl; (· exact evA); (· exact Bound.of (j := k + 1) rfl (by omega)); (· exact Bound.none); (· omega)))
                  refine L_nil ?_; refine ⟨rfl, (by first | exact KeepsH.brk (by decide +kernel) | exact KeepsH.sub subA | exact KeepsH.sub subT), ?_⟩
                  refine AS_one 4 rfl (by decide +kernel) rfl ?_
                  apply L_append
                  · exact rfl
                  · exact evA
                  · exact evA
                  · exact (Own.nil : Own 29 2 none 0 0 [] [])
                  · exact Cut.perm cutA
                  · exact Lies.cells (k := k * 2) (news := mcells (l.take k)) pullA (by rw [List.drop_zero, hs, List.take_left' hlt])
                  · exact hlt
                  · exact mcells_one _
                  · omega
                  · simp only [maxLen]; omega
                  · omega
                  · rfl
                  rintro g2 cap2 ys2 q1 q2 q3
                  rw [List.nil_append] at q1 ⊢
                  rw [Nat.zero_add] at q2 ⊢
                  refine L_nil ?_; refine ⟨rfl, (by first | exact KeepsH.brk (by decide +kernel) | exact KeepsH.sub subA | exact KeepsH.sub subT), ?_⟩
                  refine AS_one 9 rfl (by decide +kernel) rfl ?_
                  refine L_appendNone rfl evA evA (by omega) (by omega) ?_
                  refine L_nil ?_; refine ⟨rfl, (by first | exact KeepsH.brk (by decide +kernel) | exact KeepsH.sub subA | exact KeepsH.sub subT), ?_⟩
                  refine AS_at 10 (by decide +kernel) ?_; refine takeA ?_
                  refine AS_done (by decide +kernel) ?_
                  repeat (first | refine stepA ?_ | intro _)
                  refine W_any [(bm, .cells x.cells 29)] [] rfl ?_
                  refine AS_at 0 (by decide +kernel) ?_; refine takeA ?_
                  refine AS_at 1 (by decide +kernel) ?_; refine takeA ?_
                  refine AS_at 2 (by decide +kernel) ?_; refine takeA ?_
                  refine AS_one 3 rfl (by decide +kernel) rfl ?_
                  refine stepA ?_
                  refine L_nil ?_; refine ⟨rfl, (by first | exact KeepsH.brk (by decide +kernel) | exact KeepsH.sub subA | exact KeepsH.sub subT), ?_⟩
                  refine AS_at 4 (by decide +kernel) ?_; refine takeA ?_
                  refine AS_done (by decide +kernel) ?_
                  repeat (first | refine stepA ?_ | intro _)
                  (first | refine retA ?_ | refine retB ?_)
                  refine ⟨_, .inr (.inr ⟨⟨hr, hm0⟩, k, x, rfl, hx, .inr ⟨hbig, some ⟨g2, 0, none⟩, cap2, _, (by rw [show n - 1 = k by omega, hto, hcm2]; rfl), how3 g2 cap2 ys2 q1 q2 q3, rfl⟩⟩), subA⟩
              · skip
                (first | (apply L_P; (· exact rfl); (· exact rfl)) | (apply QL_P; (· exact rfl))); (· (apply P_slSl; (· exact evA); (· exact Bound.of (j := k + 1) rfl (by omega)); (· exact Bound.none); (· omega)))
                refine L_nil ?_; refine ⟨rfl, (by first | exact KeepsH.brk (by decide +kernel) | exact KeepsH.sub subA | exact KeepsH.sub subT), ?_⟩
                refine AS_one 3 rfl (by decide +kernel) rfl ?_
                (first | (apply L_P; (· exact rfl); (· exact rfl)) | (apply QL_P; (· exact rfl))); (· (apply P_slP0; (· exact evA); (· exact Bound.nat rfl); (· omega)))
                refine L_nil ?_; refine ⟨rfl, (by first | exact KeepsH.brk (by decide +kernel) | exact KeepsH.sub subA | exact KeepsH.sub subT), ?_⟩
                refine AS_one 4 rfl (by decide +kernel) rfl ?_
                apply L_append
                · exact rfl
                · exact evA
                · exact evA
                · exact (Own.nil : Own 29 2 none 0 0 [] [])
                · exact Cut.perm cutA
                · exact Lies.cells (k := k * 2) (news := mcells (l.take k)) pullA (by rw [List.drop_zero, hs, List.take_left' hlt])
                · exact hlt
                · exact mcells_one _
                · omega
                · simp only [maxLen]; omega
                · omega
                · rfl
                rintro g2 cap2 ys2 q1 q2 q3
                rw [List.nil_append] at q1 ⊢
                rw [Nat.zero_add] at q2 ⊢
                refine L_nil ?_; refine ⟨rfl, (by first | exact KeepsH.brk (by decide +kernel) | exact KeepsH.sub subA | exact KeepsH.sub subT), ?_⟩
                refine AS_one 9 rfl (by decide +kernel) rfl ?_
                refine L_appendNone rfl evA evA (by omega) (by omega) ?_
                refine L_nil ?_; refine ⟨rfl, (by first | exact KeepsH.brk (by decide +kernel) | exact KeepsH.sub subA | exact KeepsH.sub subT), ?_⟩
                refine AS_at 10 (by decide +kernel) ?_; refine takeA ?_
                refine AS_done (by decide +kernel) ?_
                repeat (first | refine stepA ?_ | intro _)
                refine W_any [(bm, .cells x.cells 29)] [] rfl ?_
                refine AS_at 0 (by decide +kernel) ?_; refine takeA ?_
                refine AS_at 1 (by decide +kernel) ?_; refine takeA ?_
                refine AS_at 2 (by decide +kernel) ?_; refine takeA ?_
                refine AS_one 3 rfl (by decide +kernel) rfl ?_
                refine stepA ?_
                refine L_nil ?_; refine ⟨rfl, (by first | exact KeepsH.brk (by decide +kernel) | exact KeepsH.sub subA | exact KeepsH.sub subT), ?_⟩
                refine AS_at 4 (by decide +kernel) ?_; refine takeA ?_
                refine AS_done (by decide +kernel) ?_
                repeat (first | refine stepA ?_ | intro _)
                (first | refine retA ?_ | refine retB ?_)
                refine ⟨_, .inr (.inr ⟨⟨hr, hm0⟩, k, x, rfl, hx, .inr ⟨hbig, some ⟨g2, 0, none⟩, cap2, _, (by rw [show n - 1 = k by omega, hto, hcm2]; rfl), how3 g2 cap2 ys2 q1 q2 q3, rfl⟩⟩), subA⟩
            · have how3 : ∀ g3 cap3 ys3, cap3 * 2 ≤ (mcells (l.take k) ++ mcells (l.drop (k + 1)) ++ ys3).length → k + (n - (k + 1)) ≤ cap3 → cap3 ≤ maxLen → oM (some ⟨g3, 0, none⟩) (n - 1) cap3 (l.eraseIdx k) [(g3, .cells (mcells (l.take k) ++ mcells (l.drop (k + 1)) ++ ys3) 29)] := by
                intro g3 cap3 ys3 r1 r2 r3
                rw [← her] at r1 ⊢
                exact Own.blk (by rw [mcells_len, List.length_eraseIdx_of_lt (by omega)]; omega) r1 (by omega) r3
              refine W_any [(g, .cells (mcells l ++ ys) 29), (bm, .cells x.cells 29)] [] rfl ?_
              refine AS_at 0 (by decide +kernel) ?_; refine takeA ?_
              refine AS_at 1 (by decide +kernel) ?_; refine takeA ?_
              refine AS_at 2 (by decide +kernel) ?_; refine takeA ?_
              refine AS_at 5 (by decide +kernel) ?_; refine takeA ?_
              refine AS_at 6 (by decide +kernel) ?_; refine takeA ?_
              refine AS_at 7 (by decide +kernel) ?_; refine takeA ?_
              refine AS_two 3 8 rfl (by decide +kernel) rfl rfl ?_ ?_
              · skip
                (first | (apply L_P; (· exact rfl); (· exact rfl)) | (apply QL_P; (· exact rfl))); (· (apply P_slP0; (· exact evA); (· exact Bound.nat rfl); (· omega)))
                refine L_nil ?_; refine ⟨rfl, (by first | exact KeepsH.brk (by decide +kernel) | exact KeepsH.sub subA | exact KeepsH.sub subT), ?_⟩
                refine AS_two 4 8 rfl (by decide +kernel) rfl rfl ?_ ?_
                · skip
                  apply L_append
                  · exact rfl
                  · exact evA
                  · exact evA
                  · exact (Own.nil : Own 29 2 none 0 0 [] [])
                  · exact Cut.perm cutA
                  · exact Lies.cells (k := k * 2) (news := mcells (l.take k)) pullA (by rw [List.drop_zero, hs, List.take_left' hlt])
                  · exact hlt
                  · exact mcells_one _
                  · omega
                  · simp only [maxLen]; omega
                  · omega
                  · rfl
                  rintro g2 cap2 ys2 q1 q2 q3
                  rw [List.nil_append] at q1 ⊢
                  rw [Nat.zero_add] at q2 ⊢
                  refine L_nil ?_; refine ⟨rfl, (by first | exact KeepsH.brk (by decide +kernel) | exact KeepsH.sub subA | exact KeepsH.sub subT), ?_⟩
                  refine AS_one 8 rfl (by decide +kernel) rfl ?_
                  (first | (apply L_P; (· exact rfl); (· exact rfl)) | (apply QL_P; (· exact rfl))); (· (apply P_slSlN; (· exact evA); (· exact Bound.of (j := k + 1) rfl (by omega)); (· exact Bound.none); (· omega); (· omega); (· exact rfl); (· exact rfl)))
                  refine L_nil ?_; refine ⟨rfl, (by first | exact KeepsH.brk (by decide +kernel) | exact KeepsH.sub subA | exact KeepsH.sub subT), ?_⟩
                  refine AS_one 9 rfl (by decide +kernel) rfl ?_
                  apply L_append
                  · exact rfl
                  · exact evA
                  · exact evA
                  · first | exact (Own.nil : Own 29 2 none 0 0 [] []) | exact Own.blk (n := k) (xs := mcells (l.take k)) hlt q1 q2 q3
                  · exact Cut.perm cutA
                  · exact Lies.cells (k := (n - (k + 1)) * 2) (news := mcells (l.drop (k + 1))) pullA hdr
                  · exact hle
                  · exact mcells_one _
                  · omega
                  · simp only [maxLen]; omega
                  · omega
                  · rfl
                  rintro g3 cap3 ys3 r1 r2 r3
                  refine L_nil ?_; refine ⟨rfl, (by first | exact KeepsH.brk (by decide +kernel) | exact KeepsH.sub subA | exact KeepsH.sub subT), ?_⟩
                  refine AS_at 10 (by decide +kernel) ?_; refine takeA ?_
                  refine AS_done (by decide +kernel) ?_
                  repeat (first | refine stepA ?_ | intro _)
                  refine W_any [(bm, .cells x.cells 29)] [] rfl ?_
                  refine AS_at 0 (by decide +kernel) ?_; refine takeA ?_
                  refine AS_at 1 (by decide +kernel) ?_; refine takeA ?_
                  refine AS_at 2 (by decide +kernel) ?_; refine takeA ?_
                  refine AS_one 3 rfl (by decide +kernel) rfl ?_
                  refine stepA ?_
                  refine L_nil ?_; refine ⟨rfl, (by first | exact KeepsH.brk (by decide +kernel) | exact KeepsH.sub subA | exact KeepsH.sub subT), ?_⟩
                  refine AS_at 4 (by decide +kernel) ?_; refine takeA ?_
                  refine AS_done (by decide +kernel) ?_
                  repeat (first | refine stepA ?_ | intro _)
                  (first | refine retA ?_ | refine retB ?_)
                  refine ⟨_, .inr (.inr ⟨⟨hr, hm0⟩, k, x, rfl, hx, .inr ⟨hbig, some ⟨g3, 0, none⟩, cap3, _, (by rw [show n - 1 = k + (n - (k + 1)) by omega, hto, hcm2]; rfl), how3 g3 cap3 ys3 r1 r2 r3, rfl⟩⟩), subA⟩
                · skip
                  (first | (apply L_P; (· exact rfl); (· exact rfl)) | (apply QL_P; (· exact rfl))); (· (apply P_slSlN; (· exact evA); (· exact Bound.of (j := k + 1) rfl (by omega)); (· exact Bound.none); (· omega); (· omega); (· exact rfl); (· exact rfl)))
                  refine L_nil ?_; refine ⟨rfl, (by first | exact KeepsH.brk (by decide +kernel) | exact KeepsH.sub subA | exact KeepsH.sub subT), ?_⟩
                  refine AS_one 4 rfl (by decide +kernel) rfl ?_
                  apply L_append
                  · exact rfl
                  · exact evA
                  · exact evA
                  · exact (Own.nil : Own 29 2 none 0 0 [] [])
                  · exact Cut.perm cutA
                  · exact Lies.cells (k := k * 2) (news := mcells (l.take k)) pullA (by rw [List.drop_zero, hs, List.take_left' hlt])
                  · exact hlt
                  · exact mcells_one _
                  · omega
                  · simp only [maxLen]; omega
                  · omega
                  · rfl
                  rintro g2 cap2 ys2 q1 q2 q3
                  rw [List.nil_append] at q1 ⊢
                  rw [Nat.zero_add] at q2 ⊢
                  refine L_nil ?_; refine ⟨rfl, (by first | exact KeepsH.brk (by decide +kernel) | exact KeepsH.sub subA | exact KeepsH.sub subT), ?_⟩
                  refine AS_one 9 rfl (by decide +kernel) rfl ?_
                  apply L_append
                  · exact rfl
                  · exact evA
                  · exact evA
                  · first | exact (Own.nil : Own 29 2 none 0 0 [] []) | exact Own.blk (n := k) (xs := mcells (l.take k)) hlt q1 q2 q3
                  · exact Cut.perm cutA
                  · exact Lies.cells (k := (n - (k + 1)) * 2) (news := mcells (l.drop (k + 1))) pullA hdr
                  · exact hle
                  · exact mcells_one _
                  · omega
                  · simp only [maxLen]; omega
                  · omega
                  · rfl
                  rintro g3 cap3 ys3 r1 r2 r3
                  refine L_nil ?_; refine ⟨rfl, (by first | exact KeepsH.brk (by decide +kernel) | exact KeepsH.sub subA | exact KeepsH.sub subT), ?_⟩
                  refine AS_at 10 (by decide +kernel) ?_; refine takeA ?_
                  refine AS_done (by decide +kernel) ?_
                  repeat (first | refine stepA ?_ | intro _)
                  refine W_any [(bm, .cells x.cells 29)] [] rfl ?_
                  refine AS_at 0 (by decide +kernel) ?_; refine takeA ?_
                  refine AS_at 1 (by decide +kernel) ?_; refine takeA ?_
                  refine AS_at 2 (by decide +kernel) ?_; refine takeA ?_
                  refine AS_one 3 rfl (by decide +kernel) rfl ?_
                  refine stepA ?_
                  refine L_nil ?_; refine ⟨rfl, (by first | exact KeepsH.brk (by decide +kernel) | exact KeepsH.sub subA | exact KeepsH.sub subT), ?_⟩
                  refine AS_at 4 (by decide +kernel) ?_; refine takeA ?_
                  refine AS_done (by decide +kernel) ?_
                  repeat (first | refine stepA ?_ | intro _)
                  (first | refine retA ?_ | refine retB ?_)
                  refine ⟨_, .inr (.inr ⟨⟨hr, hm0⟩, k, x, rfl, hx, .inr ⟨hbig, some ⟨g3, 0, none⟩, cap3, _, (by rw [show n - 1 = k + (n - (k + 1)) by omega, hto, hcm2]; rfl), how3 g3 cap3 ys3 r1 r2 r3, rfl⟩⟩), subA⟩
              · skip
                (first | (apply L_P; (· exact rfl); (· exact rfl)) | (apply QL_P; (· exact rfl))); (· (apply P_slSlN; (· exact evA); (· exact Bound.of (j := k + 1) rfl (by omega)); (· exact Bound.none); (· omega); (· omega); (· exact rfl); (· exact rfl)))
                refine L_nil ?_; refine ⟨rfl, (by first | exact KeepsH.brk (by decide +kernel) | exact KeepsH.sub subA | exact KeepsH.sub subT), ?_⟩
                refine AS_one 3 rfl (by decide +kernel) rfl ?_
                (first | (apply L_P; (· exact rfl); (· exact rfl)) | (apply QL_P; (· exact rfl))); (· (apply P_slP0; (· exact evA); (· exact Bound.nat rfl); (· omega)))
                refine L_nil ?_; refine ⟨rfl, (by first | exact KeepsH.brk (by decide +kernel) | exact KeepsH.sub subA | exact KeepsH.sub subT), ?_⟩
                refine AS_one 4 rfl (by decide +kernel) rfl ?_
                apply L_append
                · exact rfl
                · exact evA
                · exact evA
                · exact (Own.nil : Own 29 2 none 0 0 [] [])
                · exact Cut.perm cutA
                · exact Lies.cells (k := k * 2) (news := mcells (l.take k)) pullA (by rw [List.drop_zero, hs, List.take_left' hlt])
                · exact hlt
                · exact mcells_one _
                · omega
                · simp only [maxLen]; omega
                · omega
                · rfl
                rintro g2 cap2 ys2 q1 q2 q3
                rw [List.nil_append] at q1 ⊢
                rw [Nat.zero_add] at q2 ⊢
                refine L_nil ?_; refine ⟨rfl, (by first | exact KeepsH.brk (by decide +kernel) | exact KeepsH.sub subA | exact KeepsH.sub subT), ?_⟩
                refine AS_one 9 rfl (by decide +kernel) rfl ?_
                apply L_append
                · exact rfl
                · exact evA
                · exact evA
                · first | exact (Own.nil : Own 29 2 none 0 0 [] []) | exact Own.blk (n := k) (xs := mcells (l.take k)) hlt q1 q2 q3
                · exact Cut.perm cutA
                · exact Lies.cells (k := (n - (k + 1)) * 2) (news := mcells (l.drop (k + 1))) pullA hdr
                · exact hle
                · exact mcells_one _
                · omega
                · simp only [maxLen]; omega
                · omega
                · rfl
                rintro g3 cap3 ys3 r1 r2 r3
                refine L_nil ?_; refine ⟨rfl, (by first | exact KeepsH.brk (by decide +kernel) | exact KeepsH.sub subA | exact KeepsH.sub subT), ?_⟩
                refine AS_at 10 (by decide +kernel) ?_; refine takeA ?_
                refine AS_done (by decide +kernel) ?_
                repeat (first | refine stepA ?_ | intro _)
                refine W_any [(bm, .cells x.cells 29)] [] rfl ?_
                refine AS_at 0 (by decide +kernel) ?_; refine takeA ?_
                refine AS_at 1 (by decide +kernel) ?_; refine takeA ?_
                refine AS_at 2 (by decide +kernel) ?_; refine takeA ?_
                refine AS_one 3 rfl (by decide +kernel) rfl ?_
                refine stepA ?_
                refine L_nil ?_; refine ⟨rfl, (by first | exact KeepsH.brk (by decide +kernel) | exact KeepsH.sub subA | exact KeepsH.sub subT), ?_⟩
                refine AS_at 4 (by decide +kernel) ?_; refine takeA ?_
                refine AS_done (by decide +kernel) ?_
                repeat (first | refine stepA ?_ | intro _)
                (first | refine retA ?_ | refine retB ?_)
                refine ⟨_, .inr (.inr ⟨⟨hr, hm0⟩, k, x, rfl, hx, .inr ⟨hbig, some ⟨g3, 0, none⟩, cap3, _, (by rw [show n - 1 = k + (n - (k + 1)) by omega, hto, hcm2]; rfl), how3 g3 cap3 ys3 r1 r2 r3, rfl⟩⟩), subA⟩
    · repeat (first | refine stepA ?_ | intro _)
      (first | refine retA ?_ | refine retB ?_)
      exact ⟨_, .inl ⟨fun h => hm0 h.2, rfl, rfl⟩, subT⟩
end Go.Proofs.Ythachclpelhaiaa
