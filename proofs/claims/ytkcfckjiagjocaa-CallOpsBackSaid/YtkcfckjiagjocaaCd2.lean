/-
  Parse, of the program and of the document's answer.
-/
import Derived.Test.YtkcfckjiagjocaaCd1
namespace Go.Proofs.Ytkcfckjiagjocaa
open Go.RowKit
attribute [local irreducible] W L QL PureOp thenQ blockQ retQ Spec IterOk YSpec roundQ scopeQ noGoQ
attribute [local irreducible] AS ASi
set_option maxHeartbeats 6400000
abbrev zC : CallV := ⟨0, 0, 0, 0, 0, 0, []⟩
theorem callFit (x : CallV) : FitK [.int .i64, .int .i64, .int .i64, .int .i64, .int .i64, .int .i64, .str] x.cells := by
  refine ⟨rfl, fun j k hj => ?_⟩
  match j, hj with
  | 0, hj => cases hj; exact ⟨_, rfl, _, rfl⟩
  | 1, hj => cases hj; exact ⟨_, rfl, _, rfl⟩
  | 2, hj => cases hj; exact ⟨_, rfl, _, rfl⟩
  | 3, hj => cases hj; exact ⟨_, rfl, _, rfl⟩
  | 4, hj => cases hj; exact ⟨_, rfl, _, rfl⟩
  | 5, hj => cases hj; exact ⟨_, rfl, _, rfl⟩
  | 6, hj => cases hj; exact ⟨_, rfl, _, rfl⟩
  | j + 7, hj => simp at hj
abbrev bt (s : List UInt8) (i : Nat) : UInt8 := s.getD i 0
theorem bt_get {s : List UInt8} {i : Nat} (h : i < s.length) : s[i]? = some (bt s i) := by simp [bt, List.getD, h]
abbrev parseX (s : List UInt8) : CallV := ⟨((bt s 0).toNat : Int), ((bt s 1).toNat : Int), ofB (bt s 2) (bt s 3), ofB (bt s 4) (bt s 5), ofB (bt s 6) (bt s 7), ofB (bt s 8) (bt s 9), s.drop 10⟩
theorem sl_get {s : List UInt8} {a n j i : Nat} {c : UInt8} (h : s[i]? = some c) (hi : i = a + j) (hj : j < n) : ((s.drop a).take n)[j]? = some c := by
  subst hi
  rw [List.getElem?_take, if_pos hj, List.getElem?_drop]; exact h
theorem wrap_byte (b : UInt8) : IntKind.i64.wrap (b.toNat : Int) = (b.toNat : Int) := by
  have := b.toNat_lt
  exact wrap_i64 (by omega)
theorem zero_not : ¬ RightP zC := fun h => by have := h.no.1; simp at this
theorem parse_no (s : List UInt8) (h : s.length < 10) : Spec Try.prog 13 [str s] [] fun v H' => v = .tuple #[.agg zC.cells.toArray, .int .i64 170] ∧ H' = [] := by
  refine Spec_body Try.func13 rfl Try.ntmps13 rfl (fun w0 => ?_)
  repeat (first | refine stepA ?_ | intro _)
  (first | refine retA ?_ | refine retB ?_); exact ⟨_, ⟨rfl, rfl⟩, subA⟩
theorem rparse_no (s : List UInt8) (h : s.length < 10) : Spec Try.prog 14 [str s] [] fun v H' => v = .tuple #[.agg zC.cells.toArray, .int .i64 170] ∧ H' = [] := by
  refine Spec_body Try.func14 rfl Try.ntmps14 rfl (fun w0 => ?_)
  repeat (first | refine stepA ?_ | intro _)
  (first | refine retA ?_ | refine retB ?_); exact ⟨_, ⟨rfl, rfl⟩, subA⟩
def parseV (s : List UInt8) : Value := if RightP (parseX s) then .tuple #[.agg (parseX s).cells.toArray, .int .i64 0] else .tuple #[.agg zC.cells.toArray, .int .i64 170]
theorem parse_spec (s : List UInt8) (h : 10 ≤ s.length) (hm : s.length ≤ 9223372036854775807) : Spec Try.prog 13 [str s] [] fun v H' => v = parseV s ∧ H' = [] := by
  have h0 := bt_get (s := s) (i := 0) (by omega)
  have h1 := bt_get (s := s) (i := 1) (by omega)
  have wa := wrap_byte (bt s 0)
  have wb := wrap_byte (bt s 1)
  have hd : (s.drop 10).take (s.length - 10) = s.drop 10 := List.take_of_length_le (by simp)
  refine Spec_body Try.func13 rfl Try.ntmps13 rfl (fun w0 => ?_)
  repeat (first | refine stepA ?_ | intro _)
  refine W_anyH rfl ?_
  refine AS_at 0 (by decide +kernel) ?_; refine takeA ?_
  refine AS_at 1 (by decide +kernel) ?_; refine takeA ?_
  refine AS_at 2 (by decide +kernel) ?_; refine takeA ?_
  refine AS_at 3 (by decide +kernel) ?_; refine takeA ?_
  refine AS_at 4 (by decide +kernel) ?_; refine takeA ?_
  refine AS_at 5 (by decide +kernel) ?_; refine takeA ?_
  refine AS_at 6 (by decide +kernel) ?_; refine takeA ?_
  refine AS_at 7 (by decide +kernel) ?_; refine takeA ?_
  refine AS_at 9 (by decide +kernel) ?_; refine takeA ?_
  refine AS_at 10 (by decide +kernel) ?_; refine takeA ?_
  refine AS_at 12 (by decide +kernel) ?_; refine takeA ?_
  refine AS_at 13 (by decide +kernel) ?_; refine takeA ?_
  refine AS_at 15 (by decide +kernel) ?_; refine takeA ?_
  refine AS_at 16 (by decide +kernel) ?_; refine takeA ?_
  refine AS_at 18 (by decide +kernel) ?_; refine takeA ?_
  refine AS_at 19 (by decide +kernel) ?_; refine takeA ?_
  refine AS_one 8 rfl (by decide +kernel) rfl ?_
  refine callA ?_; refine ⟨_, _, short_spec _ (bt s 2) (bt s 3) (sl_get (bt_get (by omega)) rfl (by omega)) (sl_get (bt_get (by omega)) rfl (by omega)), _, cutA, ?_⟩
  rintro v H' ⟨rfl, rfl⟩
  refine L_nil ?_; refine ⟨rfl, (by first | exact KeepsH.brk (by decide +kernel) | exact KeepsH.sub subA), ?_⟩
  refine AS_one 11 rfl (by decide +kernel) rfl ?_
  refine callA ?_; refine ⟨_, _, short_spec _ (bt s 4) (bt s 5) (sl_get (bt_get (by omega)) rfl (by omega)) (sl_get (bt_get (by omega)) rfl (by omega)), _, cutA, ?_⟩
  rintro v H' ⟨rfl, rfl⟩
  refine L_nil ?_; refine ⟨rfl, (by first | exact KeepsH.brk (by decide +kernel) | exact KeepsH.sub subA), ?_⟩
  refine AS_one 14 rfl (by decide +kernel) rfl ?_
  refine callA ?_; refine ⟨_, _, short_spec _ (bt s 6) (bt s 7) (sl_get (bt_get (by omega)) rfl (by omega)) (sl_get (bt_get (by omega)) rfl (by omega)), _, cutA, ?_⟩
  rintro v H' ⟨rfl, rfl⟩
  refine L_nil ?_; refine ⟨rfl, (by first | exact KeepsH.brk (by decide +kernel) | exact KeepsH.sub subA), ?_⟩
  refine AS_one 17 rfl (by decide +kernel) rfl ?_
  refine callA ?_; refine ⟨_, _, short_spec _ (bt s 8) (bt s 9) (sl_get (bt_get (by omega)) rfl (by omega)) (sl_get (bt_get (by omega)) rfl (by omega)), _, cutA, ?_⟩
  rintro v H' ⟨rfl, rfl⟩
  refine L_nil ?_; refine ⟨rfl, (by first | exact KeepsH.brk (by decide +kernel) | exact KeepsH.sub subA), ?_⟩
  refine AS_at 20 (by decide +kernel) ?_; refine takeA ?_
  refine AS_one 21 rfl (by decide +kernel) rfl ?_
  rw [wa, wb, hd]
  refine stepA ?_
  refine L_nil ?_; refine ⟨rfl, (by first | exact KeepsH.brk (by decide +kernel) | exact KeepsH.sub subA), ?_⟩
  refine AS_done (by decide +kernel) ?_
  repeat (first | refine stepA ?_ | intro _)
  by_cases hr : RightP (parseX s)
  · have hne : ¬ (parseX s).cells = zC.cells := fun e => by
      have := hr.no.1
      simp only [CallV.cells, List.cons.injEq, Value.int.injEq, true_and] at e
      have e1 : (parseX s).no = 0 := e.1
      omega
    have hv : parseV s = .tuple #[.agg (parseX s).cells.toArray, .int .i64 0] := by unfold parseV; rw [if_pos hr]
    (first | (apply L_P; (· exact rfl); (· exact rfl)) | (apply QL_P; (· exact rfl))); (· (apply P_neS; (· exact evA); (· exact evA); (· exact callFit (parseX s)); (· exact callFit zC); (· exact (⟨fun h => (by cases h), fun e => absurd e hne⟩ : false = true ↔ _))))
    rw [Bool.not_false]
    repeat (first | refine stepA ?_ | intro _)
    refine callA ?_; refine ⟨_, _, right_spec (parseX s), _, cutA, ?_⟩
    rintro v H' ⟨rfl, rfl⟩
    rw [decide_eq_true hr]
    repeat (first | refine stepA ?_ | intro _)
    (first | refine retA ?_ | refine retB ?_); exact ⟨_, ⟨hv.symm, rfl⟩, subA⟩
  · have hv : parseV s = .tuple #[.agg zC.cells.toArray, .int .i64 170] := by unfold parseV; rw [if_neg hr]
    by_cases he : (parseX s).cells = zC.cells
    · (first | (apply L_P; (· exact rfl); (· exact rfl)) | (apply QL_P; (· exact rfl))); (· (apply P_neS; (· exact evA); (· exact evA); (· exact callFit (parseX s)); (· exact callFit zC); (· exact (⟨fun _ => he, fun _ => rfl⟩ : true = true ↔ _))))
      rw [Bool.not_true]
      repeat (first | refine stepA ?_ | intro _)
      (first | refine retA ?_ | refine retB ?_); exact ⟨_, ⟨hv.symm, rfl⟩, subA⟩
    · (first | (apply L_P; (· exact rfl); (· exact rfl)) | (apply QL_P; (· exact rfl))); (· (apply P_neS; (· exact evA); (· exact evA); (· exact callFit (parseX s)); (· exact callFit zC); (· exact (⟨fun h => (by cases h), fun e => absurd e he⟩ : false = true ↔ _))))
      rw [Bool.not_false]
      repeat (first | refine stepA ?_ | intro _)
      refine callA ?_; refine ⟨_, _, right_spec (parseX s), _, cutA, ?_⟩
      rintro v H' ⟨rfl, rfl⟩
      rw [decide_eq_false hr]
      repeat (first | refine stepA ?_ | intro _)
      (first | refine retA ?_ | refine retB ?_); exact ⟨_, ⟨hv.symm, rfl⟩, subA⟩
theorem rparse_spec (s : List UInt8) (h : 10 ≤ s.length) (hm : s.length ≤ 9223372036854775807) : Spec Try.prog 14 [str s] [] fun v H' => v = parseV s ∧ H' = [] := by
  have h0 := bt_get (s := s) (i := 0) (by omega)
  have h1 := bt_get (s := s) (i := 1) (by omega)
  have wa := wrap_byte (bt s 0)
  have wb := wrap_byte (bt s 1)
  have hd : (s.drop 10).take (s.length - 10) = s.drop 10 := List.take_of_length_le (by simp)
  refine Spec_body Try.func14 rfl Try.ntmps14 rfl (fun w0 => ?_)
  repeat (first | refine stepA ?_ | intro _)
  refine W_anyH rfl ?_
  refine AS_at 0 (by decide +kernel) ?_; refine takeA ?_
  refine AS_at 1 (by decide +kernel) ?_; refine takeA ?_
  refine AS_at 2 (by decide +kernel) ?_; refine takeA ?_
  refine AS_at 3 (by decide +kernel) ?_; refine takeA ?_
  refine AS_at 4 (by decide +kernel) ?_; refine takeA ?_
  refine AS_at 5 (by decide +kernel) ?_; refine takeA ?_
  refine AS_at 6 (by decide +kernel) ?_; refine takeA ?_
  refine AS_at 7 (by decide +kernel) ?_; refine takeA ?_
  refine AS_at 9 (by decide +kernel) ?_; refine takeA ?_
  refine AS_at 10 (by decide +kernel) ?_; refine takeA ?_
  refine AS_at 12 (by decide +kernel) ?_; refine takeA ?_
  refine AS_at 13 (by decide +kernel) ?_; refine takeA ?_
  refine AS_at 15 (by decide +kernel) ?_; refine takeA ?_
  refine AS_at 16 (by decide +kernel) ?_; refine takeA ?_
  refine AS_at 18 (by decide +kernel) ?_; refine takeA ?_
  refine AS_at 19 (by decide +kernel) ?_; refine takeA ?_
  refine AS_two 8 21 rfl (by decide +kernel) rfl rfl ?_ ?_
  · skip
    refine callA ?_; refine ⟨_, _, of_spec _ (bt s 2) (bt s 3) (sl_get (bt_get (by omega)) rfl (by omega)) (sl_get (bt_get (by omega)) rfl (by omega)), _, cutA, ?_⟩
    rintro v H' ⟨rfl, rfl⟩
    refine L_nil ?_; refine ⟨rfl, (by first | exact KeepsH.brk (by decide +kernel) | exact KeepsH.sub subA), ?_⟩
    refine AS_two 11 21 rfl (by decide +kernel) rfl rfl ?_ ?_
    · skip
      refine callA ?_; refine ⟨_, _, of_spec _ (bt s 4) (bt s 5) (sl_get (bt_get (by omega)) rfl (by omega)) (sl_get (bt_get (by omega)) rfl (by omega)), _, cutA, ?_⟩
      rintro v H' ⟨rfl, rfl⟩
      refine L_nil ?_; refine ⟨rfl, (by first | exact KeepsH.brk (by decide +kernel) | exact KeepsH.sub subA), ?_⟩
      refine AS_two 14 21 rfl (by decide +kernel) rfl rfl ?_ ?_
      · skip
        refine callA ?_; refine ⟨_, _, of_spec _ (bt s 6) (bt s 7) (sl_get (bt_get (by omega)) rfl (by omega)) (sl_get (bt_get (by omega)) rfl (by omega)), _, cutA, ?_⟩
        rintro v H' ⟨rfl, rfl⟩
        refine L_nil ?_; refine ⟨rfl, (by first | exact KeepsH.brk (by decide +kernel) | exact KeepsH.sub subA), ?_⟩
        refine AS_two 17 21 rfl (by decide +kernel) rfl rfl ?_ ?_
        · skip
          refine callA ?_; refine ⟨_, _, of_spec _ (bt s 8) (bt s 9) (sl_get (bt_get (by omega)) rfl (by omega)) (sl_get (bt_get (by omega)) rfl (by omega)), _, cutA, ?_⟩
          rintro v H' ⟨rfl, rfl⟩
          refine L_nil ?_; refine ⟨rfl, (by first | exact KeepsH.brk (by decide +kernel) | exact KeepsH.sub subA), ?_⟩
          refine AS_at 20 (by decide +kernel) ?_; refine takeA ?_
          refine AS_one 21 rfl (by decide +kernel) rfl ?_
          refine stepA ?_
          intro bc
          refine L_nil ?_; refine ⟨rfl, (by first | exact KeepsH.brk (by decide +kernel) | exact KeepsH.sub subA), ?_⟩
          refine AS_one 22 rfl (by decide +kernel) rfl ?_
          rw [wa, wb, hd]
          refine stepA ?_
          refine L_nil ?_; refine ⟨rfl, (by first | exact KeepsH.brk (by decide +kernel) | exact KeepsH.sub subA), ?_⟩
          refine AS_done (by decide +kernel) ?_
          repeat (first | refine stepA ?_ | intro _)
          refine callA ?_; refine ⟨_, _, rright_spec (parseX s), _, cutA, ?_⟩
          rintro v H' ⟨rfl, rfl⟩
          by_cases hr : RightP (parseX s)
          · have hv : parseV s = .tuple #[.agg (parseX s).cells.toArray, .int .i64 0] := by unfold parseV; rw [if_pos hr]
            rw [decide_eq_true hr]
            repeat (first | refine stepA ?_ | intro _)
            (first | refine retA ?_ | refine retB ?_); exact ⟨_, ⟨hv.symm, rfl⟩, subA⟩
          · have hv : parseV s = .tuple #[.agg zC.cells.toArray, .int .i64 170] := by unfold parseV; rw [if_neg hr]
            rw [decide_eq_false hr]
            repeat (first | refine stepA ?_ | intro _)
            (first | refine retA ?_ | refine retB ?_); exact ⟨_, ⟨hv.symm, rfl⟩, subA⟩
        · skip
          refine stepA ?_
          intro bc
          refine L_nil ?_; refine ⟨rfl, (by first | exact KeepsH.brk (by decide +kernel) | exact KeepsH.sub subA), ?_⟩
          refine AS_one 17 rfl (by decide +kernel) rfl ?_
          refine callA ?_; refine ⟨_, _, of_spec _ (bt s 8) (bt s 9) (sl_get (bt_get (by omega)) rfl (by omega)) (sl_get (bt_get (by omega)) rfl (by omega)), _, cutA, ?_⟩
          rintro v H' ⟨rfl, rfl⟩
          refine L_nil ?_; refine ⟨rfl, (by first | exact KeepsH.brk (by decide +kernel) | exact KeepsH.sub subA), ?_⟩
          refine AS_at 20 (by decide +kernel) ?_; refine takeA ?_
          refine AS_one 22 rfl (by decide +kernel) rfl ?_
          rw [wa, wb, hd]
          refine stepA ?_
          refine L_nil ?_; refine ⟨rfl, (by first | exact KeepsH.brk (by decide +kernel) | exact KeepsH.sub subA), ?_⟩
          refine AS_done (by decide +kernel) ?_
          repeat (first | refine stepA ?_ | intro _)
          refine callA ?_; refine ⟨_, _, rright_spec (parseX s), _, cutA, ?_⟩
          rintro v H' ⟨rfl, rfl⟩
          by_cases hr : RightP (parseX s)
          · have hv : parseV s = .tuple #[.agg (parseX s).cells.toArray, .int .i64 0] := by unfold parseV; rw [if_pos hr]
            rw [decide_eq_true hr]
            repeat (first | refine stepA ?_ | intro _)
            (first | refine retA ?_ | refine retB ?_); exact ⟨_, ⟨hv.symm, rfl⟩, subA⟩
          · have hv : parseV s = .tuple #[.agg zC.cells.toArray, .int .i64 170] := by unfold parseV; rw [if_neg hr]
            rw [decide_eq_false hr]
            repeat (first | refine stepA ?_ | intro _)
            (first | refine retA ?_ | refine retB ?_); exact ⟨_, ⟨hv.symm, rfl⟩, subA⟩
      · skip
        refine stepA ?_
        intro bc
        refine L_nil ?_; refine ⟨rfl, (by first | exact KeepsH.brk (by decide +kernel) | exact KeepsH.sub subA), ?_⟩
        refine AS_one 14 rfl (by decide +kernel) rfl ?_
        refine callA ?_; refine ⟨_, _, of_spec _ (bt s 6) (bt s 7) (sl_get (bt_get (by omega)) rfl (by omega)) (sl_get (bt_get (by omega)) rfl (by omega)), _, cutA, ?_⟩
        rintro v H' ⟨rfl, rfl⟩
        refine L_nil ?_; refine ⟨rfl, (by first | exact KeepsH.brk (by decide +kernel) | exact KeepsH.sub subA), ?_⟩
        refine AS_one 17 rfl (by decide +kernel) rfl ?_
        refine callA ?_; refine ⟨_, _, of_spec _ (bt s 8) (bt s 9) (sl_get (bt_get (by omega)) rfl (by omega)) (sl_get (bt_get (by omega)) rfl (by omega)), _, cutA, ?_⟩
        rintro v H' ⟨rfl, rfl⟩
        refine L_nil ?_; refine ⟨rfl, (by first | exact KeepsH.brk (by decide +kernel) | exact KeepsH.sub subA), ?_⟩
        refine AS_at 20 (by decide +kernel) ?_; refine takeA ?_
        refine AS_one 22 rfl (by decide +kernel) rfl ?_
        rw [wa, wb, hd]
        refine stepA ?_
        refine L_nil ?_; refine ⟨rfl, (by first | exact KeepsH.brk (by decide +kernel) | exact KeepsH.sub subA), ?_⟩
        refine AS_done (by decide +kernel) ?_
        repeat (first | refine stepA ?_ | intro _)
        refine callA ?_; refine ⟨_, _, rright_spec (parseX s), _, cutA, ?_⟩
        rintro v H' ⟨rfl, rfl⟩
        by_cases hr : RightP (parseX s)
        · have hv : parseV s = .tuple #[.agg (parseX s).cells.toArray, .int .i64 0] := by unfold parseV; rw [if_pos hr]
          rw [decide_eq_true hr]
          repeat (first | refine stepA ?_ | intro _)
          (first | refine retA ?_ | refine retB ?_); exact ⟨_, ⟨hv.symm, rfl⟩, subA⟩
        · have hv : parseV s = .tuple #[.agg zC.cells.toArray, .int .i64 170] := by unfold parseV; rw [if_neg hr]
          rw [decide_eq_false hr]
          repeat (first | refine stepA ?_ | intro _)
          (first | refine retA ?_ | refine retB ?_); exact ⟨_, ⟨hv.symm, rfl⟩, subA⟩
    · skip
      refine stepA ?_
      intro bc
      refine L_nil ?_; refine ⟨rfl, (by first | exact KeepsH.brk (by decide +kernel) | exact KeepsH.sub subA), ?_⟩
      refine AS_one 11 rfl (by decide +kernel) rfl ?_
      refine callA ?_; refine ⟨_, _, of_spec _ (bt s 4) (bt s 5) (sl_get (bt_get (by omega)) rfl (by omega)) (sl_get (bt_get (by omega)) rfl (by omega)), _, cutA, ?_⟩
      rintro v H' ⟨rfl, rfl⟩
      refine L_nil ?_; refine ⟨rfl, (by first | exact KeepsH.brk (by decide +kernel) | exact KeepsH.sub subA), ?_⟩
      refine AS_one 14 rfl (by decide +kernel) rfl ?_
      refine callA ?_; refine ⟨_, _, of_spec _ (bt s 6) (bt s 7) (sl_get (bt_get (by omega)) rfl (by omega)) (sl_get (bt_get (by omega)) rfl (by omega)), _, cutA, ?_⟩
      rintro v H' ⟨rfl, rfl⟩
      refine L_nil ?_; refine ⟨rfl, (by first | exact KeepsH.brk (by decide +kernel) | exact KeepsH.sub subA), ?_⟩
      refine AS_one 17 rfl (by decide +kernel) rfl ?_
      refine callA ?_; refine ⟨_, _, of_spec _ (bt s 8) (bt s 9) (sl_get (bt_get (by omega)) rfl (by omega)) (sl_get (bt_get (by omega)) rfl (by omega)), _, cutA, ?_⟩
      rintro v H' ⟨rfl, rfl⟩
      refine L_nil ?_; refine ⟨rfl, (by first | exact KeepsH.brk (by decide +kernel) | exact KeepsH.sub subA), ?_⟩
      refine AS_at 20 (by decide +kernel) ?_; refine takeA ?_
      refine AS_one 22 rfl (by decide +kernel) rfl ?_
      rw [wa, wb, hd]
      refine stepA ?_
      refine L_nil ?_; refine ⟨rfl, (by first | exact KeepsH.brk (by decide +kernel) | exact KeepsH.sub subA), ?_⟩
      refine AS_done (by decide +kernel) ?_
      repeat (first | refine stepA ?_ | intro _)
      refine callA ?_; refine ⟨_, _, rright_spec (parseX s), _, cutA, ?_⟩
      rintro v H' ⟨rfl, rfl⟩
      by_cases hr : RightP (parseX s)
      · have hv : parseV s = .tuple #[.agg (parseX s).cells.toArray, .int .i64 0] := by unfold parseV; rw [if_pos hr]
        rw [decide_eq_true hr]
        repeat (first | refine stepA ?_ | intro _)
        (first | refine retA ?_ | refine retB ?_); exact ⟨_, ⟨hv.symm, rfl⟩, subA⟩
      · have hv : parseV s = .tuple #[.agg zC.cells.toArray, .int .i64 170] := by unfold parseV; rw [if_neg hr]
        rw [decide_eq_false hr]
        repeat (first | refine stepA ?_ | intro _)
        (first | refine retA ?_ | refine retB ?_); exact ⟨_, ⟨hv.symm, rfl⟩, subA⟩
  · skip
    refine stepA ?_
    intro bc
    refine L_nil ?_; refine ⟨rfl, (by first | exact KeepsH.brk (by decide +kernel) | exact KeepsH.sub subA), ?_⟩
    refine AS_one 8 rfl (by decide +kernel) rfl ?_
    refine callA ?_; refine ⟨_, _, of_spec _ (bt s 2) (bt s 3) (sl_get (bt_get (by omega)) rfl (by omega)) (sl_get (bt_get (by omega)) rfl (by omega)), _, cutA, ?_⟩
    rintro v H' ⟨rfl, rfl⟩
    refine L_nil ?_; refine ⟨rfl, (by first | exact KeepsH.brk (by decide +kernel) | exact KeepsH.sub subA), ?_⟩
    refine AS_one 11 rfl (by decide +kernel) rfl ?_
    refine callA ?_; refine ⟨_, _, of_spec _ (bt s 4) (bt s 5) (sl_get (bt_get (by omega)) rfl (by omega)) (sl_get (bt_get (by omega)) rfl (by omega)), _, cutA, ?_⟩
    rintro v H' ⟨rfl, rfl⟩
    refine L_nil ?_; refine ⟨rfl, (by first | exact KeepsH.brk (by decide +kernel) | exact KeepsH.sub subA), ?_⟩
    refine AS_one 14 rfl (by decide +kernel) rfl ?_
    refine callA ?_; refine ⟨_, _, of_spec _ (bt s 6) (bt s 7) (sl_get (bt_get (by omega)) rfl (by omega)) (sl_get (bt_get (by omega)) rfl (by omega)), _, cutA, ?_⟩
    rintro v H' ⟨rfl, rfl⟩
    refine L_nil ?_; refine ⟨rfl, (by first | exact KeepsH.brk (by decide +kernel) | exact KeepsH.sub subA), ?_⟩
    refine AS_one 17 rfl (by decide +kernel) rfl ?_
    refine callA ?_; refine ⟨_, _, of_spec _ (bt s 8) (bt s 9) (sl_get (bt_get (by omega)) rfl (by omega)) (sl_get (bt_get (by omega)) rfl (by omega)), _, cutA, ?_⟩
    rintro v H' ⟨rfl, rfl⟩
    refine L_nil ?_; refine ⟨rfl, (by first | exact KeepsH.brk (by decide +kernel) | exact KeepsH.sub subA), ?_⟩
    refine AS_at 20 (by decide +kernel) ?_; refine takeA ?_
    refine AS_one 22 rfl (by decide +kernel) rfl ?_
    rw [wa, wb, hd]
    refine stepA ?_
    refine L_nil ?_; refine ⟨rfl, (by first | exact KeepsH.brk (by decide +kernel) | exact KeepsH.sub subA), ?_⟩
    refine AS_done (by decide +kernel) ?_
    repeat (first | refine stepA ?_ | intro _)
    refine callA ?_; refine ⟨_, _, rright_spec (parseX s), _, cutA, ?_⟩
    rintro v H' ⟨rfl, rfl⟩
    by_cases hr : RightP (parseX s)
    · have hv : parseV s = .tuple #[.agg (parseX s).cells.toArray, .int .i64 0] := by unfold parseV; rw [if_pos hr]
      rw [decide_eq_true hr]
      repeat (first | refine stepA ?_ | intro _)
      (first | refine retA ?_ | refine retB ?_); exact ⟨_, ⟨hv.symm, rfl⟩, subA⟩
    · have hv : parseV s = .tuple #[.agg zC.cells.toArray, .int .i64 170] := by unfold parseV; rw [if_neg hr]
      rw [decide_eq_false hr]
      repeat (first | refine stepA ?_ | intro _)
      (first | refine retA ?_ | refine retB ?_); exact ⟨_, ⟨hv.symm, rfl⟩, subA⟩
end Go.Proofs.Ytkcfckjiagjocaa
