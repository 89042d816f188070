/-
  A call's bytes: Bytes, of the program and of the document's answer.
-/
import Derived.Test.YtkcfckjiagjocaaCb1
namespace Go.Proofs.Ytkcfckjiagjocaa
open Go.RowKit
attribute [local irreducible] W L QL PureOp thenQ blockQ retQ Spec IterOk YSpec roundQ scopeQ noGoQ
attribute [local irreducible] AS ASi
set_option maxHeartbeats 6400000
abbrev callB (x : CallV) : List UInt8 := [byteOf x.no, byteOf x.f] ++ twos [x.a, x.b, x.c, x.d] ++ x.s
theorem callB_len (x : CallV) : (callB x).length = 10 + x.s.length := by
  have ht : (twos [x.a, x.b, x.c, x.d]).length = 8 := rfl
  simp only [callB, List.length_append, ht, List.length_cons, List.length_nil]
theorem bytes_no (x : CallV) (h : ¬ RightP x) : Spec Try.prog 11 [.agg x.cells.toArray] [] fun v H' => v = .tuple #[str [], .int .i64 170] ∧ H' = [] := by
  refine Spec_body Try.func11 rfl Try.ntmps11 rfl (fun w0 => ?_)
  repeat (first | refine stepA ?_ | intro _)
  refine callA ?_; refine ⟨_, _, right_spec x, _, cutA, ?_⟩
  rintro v H' ⟨rfl, rfl⟩
  rw [decide_eq_false h]
  repeat (first | refine stepA ?_ | intro _)
  (first | refine retA ?_ | refine retB ?_); exact ⟨_, ⟨rfl, rfl⟩, subA⟩
theorem rbytes_no (x : CallV) (h : ¬ RightP x) : Spec Try.prog 12 [.agg x.cells.toArray] [] fun v H' => v = .tuple #[str [], .int .i64 170] ∧ H' = [] := by
  refine Spec_body Try.func12 rfl Try.ntmps12 rfl (fun w0 => ?_)
  repeat (first | refine stepA ?_ | intro _)
  refine callA ?_; refine ⟨_, _, rright_spec x, _, cutA, ?_⟩
  rintro v H' ⟨rfl, rfl⟩
  rw [decide_eq_false h]
  repeat (first | refine stepA ?_ | intro _)
  (first | refine retA ?_ | refine retB ?_); exact ⟨_, ⟨rfl, rfl⟩, subA⟩
theorem bytes_yes (x : CallV) (h : RightP x) : Spec Try.prog 11 [.agg x.cells.toArray] [] fun v H' => v = .tuple #[str (callB x), .int .i64 0] ∧ H' = [] := by
  have hs := h.s
  have ht : (twos [x.a, x.b, x.c, x.d]).length = 8 := rfl
  have e1 := byteOf_wrap x.no
  have e2 := byteOf_wrap x.f
  refine Spec_body Try.func11 rfl Try.ntmps11 rfl (fun w0 => ?_)
  repeat (first | refine stepA ?_ | intro _)
  refine callA ?_; refine ⟨_, _, right_spec x, _, cutA, ?_⟩
  rintro v H' ⟨rfl, rfl⟩
  rw [decide_eq_true h]
  repeat (first | refine stepA ?_ | intro _)
  refine W_anyH rfl ?_
  refine AS_at 0 (by decide +kernel) ?_; refine takeA ?_
  refine AS_at 1 (by decide +kernel) ?_; refine takeA ?_
  refine AS_at 2 (by decide +kernel) ?_; refine takeA ?_
  refine AS_at 3 (by decide +kernel) ?_; refine takeA ?_
  refine AS_at 4 (by decide +kernel) ?_; refine takeA ?_
  refine AS_at 5 (by decide +kernel) ?_; refine takeA ?_
  refine AS_at 8 (by decide +kernel) ?_; refine takeA ?_
  refine AS_at 9 (by decide +kernel) ?_; refine takeA ?_
  refine AS_at 10 (by decide +kernel) ?_; refine takeA ?_
  refine AS_at 11 (by decide +kernel) ?_; refine takeA ?_
  refine AS_at 12 (by decide +kernel) ?_; refine takeA ?_
  refine AS_at 13 (by decide +kernel) ?_; refine takeA ?_
  refine AS_at 14 (by decide +kernel) ?_; refine takeA ?_
  refine AS_at 15 (by decide +kernel) ?_; refine takeA ?_
  refine AS_at 19 (by decide +kernel) ?_; refine takeA ?_
  refine AS_at 20 (by decide +kernel) ?_; refine takeA ?_
  refine AS_two 6 16 rfl (by decide +kernel) rfl rfl ?_ ?_
  · skip
    refine stepA ?_
    intro gb
    refine L_nil ?_; refine ⟨rfl, (by first | exact KeepsH.brk (by decide +kernel) | exact KeepsH.sub subA), ?_⟩
    refine AS_two 7 16 rfl (by decide +kernel) rfl rfl ?_ ?_
    · skip
      (first | (apply L_P; (· exact rfl); (· exact rfl)) | (apply QL_P; (· exact rfl))); (· (apply P_bytesStr; (· exact evA); (· exact pullA); (· exact (show _ = bts [byteOf x.no, byteOf x.f] by rw [e1, e2]; rfl)); (· exact rfl)))
      refine L_nil ?_; refine ⟨rfl, (by first | exact KeepsH.brk (by decide +kernel) | exact KeepsH.sub subA), ?_⟩
      refine AS_one 16 rfl (by decide +kernel) rfl ?_
      refine stepA ?_
      intro gl
      refine L_nil ?_; refine ⟨rfl, (by first | exact KeepsH.brk (by decide +kernel) | exact KeepsH.sub subA), ?_⟩
      refine AS_one 17 rfl (by decide +kernel) rfl ?_
      refine callA ?_; refine ⟨_, _, shorts_spec gl 4 _ [x.a, x.b, x.c, x.d] rfl (by omega) (by omega), _, cutA, ?_⟩
      rintro v H' ⟨rfl, rfl⟩
      refine L_nil ?_; refine ⟨rfl, (by first | exact KeepsH.brk (by decide +kernel) | exact KeepsH.sub subA), ?_⟩
      refine AS_at 18 (by decide +kernel) ?_; refine takeA ?_
      refine AS_at 21 (by decide +kernel) ?_; refine takeA ?_
      refine AS_at 22 (by decide +kernel) ?_; refine takeA ?_
      refine AS_at 23 (by decide +kernel) ?_; refine takeA ?_
      refine AS_done (by decide +kernel) ?_
      repeat (first | refine stepA ?_ | intro _)
      (first | refine retA ?_ | refine retB ?_); exact ⟨_, ⟨rfl, rfl⟩, subA⟩
    · skip
      refine stepA ?_
      intro gl
      refine L_nil ?_; refine ⟨rfl, (by first | exact KeepsH.brk (by decide +kernel) | exact KeepsH.sub subA), ?_⟩
      refine AS_two 7 17 rfl (by decide +kernel) rfl rfl ?_ ?_
      · skip
        (first | (apply L_P; (· exact rfl); (· exact rfl)) | (apply QL_P; (· exact rfl))); (· (apply P_bytesStr; (· exact evA); (· exact pullA); (· exact (show _ = bts [byteOf x.no, byteOf x.f] by rw [e1, e2]; rfl)); (· exact rfl)))
        refine L_nil ?_; refine ⟨rfl, (by first | exact KeepsH.brk (by decide +kernel) | exact KeepsH.sub subA), ?_⟩
        refine AS_one 17 rfl (by decide +kernel) rfl ?_
        refine callA ?_; refine ⟨_, _, shorts_spec gl 4 _ [x.a, x.b, x.c, x.d] rfl (by omega) (by omega), _, cutA, ?_⟩
        rintro v H' ⟨rfl, rfl⟩
        refine L_nil ?_; refine ⟨rfl, (by first | exact KeepsH.brk (by decide +kernel) | exact KeepsH.sub subA), ?_⟩
        refine AS_at 18 (by decide +kernel) ?_; refine takeA ?_
        refine AS_at 21 (by decide +kernel) ?_; refine takeA ?_
        refine AS_at 22 (by decide +kernel) ?_; refine takeA ?_
        refine AS_at 23 (by decide +kernel) ?_; refine takeA ?_
        refine AS_done (by decide +kernel) ?_
        repeat (first | refine stepA ?_ | intro _)
        (first | refine retA ?_ | refine retB ?_); exact ⟨_, ⟨rfl, rfl⟩, subA⟩
      · skip
        refine callA ?_; refine ⟨_, _, shorts_spec gl 4 _ [x.a, x.b, x.c, x.d] rfl (by omega) (by omega), _, cutA, ?_⟩
        rintro v H' ⟨rfl, rfl⟩
        refine L_nil ?_; refine ⟨rfl, (by first | exact KeepsH.brk (by decide +kernel) | exact KeepsH.sub subA), ?_⟩
        refine AS_one 7 rfl (by decide +kernel) rfl ?_
        (first | (apply L_P; (· exact rfl); (· exact rfl)) | (apply QL_P; (· exact rfl))); (· (apply P_bytesStr; (· exact evA); (· exact pullA); (· exact (show _ = bts [byteOf x.no, byteOf x.f] by rw [e1, e2]; rfl)); (· exact rfl)))
        refine L_nil ?_; refine ⟨rfl, (by first | exact KeepsH.brk (by decide +kernel) | exact KeepsH.sub subA), ?_⟩
        refine AS_at 18 (by decide +kernel) ?_; refine takeA ?_
        refine AS_at 21 (by decide +kernel) ?_; refine takeA ?_
        refine AS_at 22 (by decide +kernel) ?_; refine takeA ?_
        refine AS_at 23 (by decide +kernel) ?_; refine takeA ?_
        refine AS_done (by decide +kernel) ?_
        repeat (first | refine stepA ?_ | intro _)
        (first | refine retA ?_ | refine retB ?_); exact ⟨_, ⟨rfl, rfl⟩, subA⟩
  · skip
    refine stepA ?_
    intro gl
    refine L_nil ?_; refine ⟨rfl, (by first | exact KeepsH.brk (by decide +kernel) | exact KeepsH.sub subA), ?_⟩
    refine AS_two 6 17 rfl (by decide +kernel) rfl rfl ?_ ?_
    · skip
      refine stepA ?_
      intro gb
      refine L_nil ?_; refine ⟨rfl, (by first | exact KeepsH.brk (by decide +kernel) | exact KeepsH.sub subA), ?_⟩
      refine AS_two 7 17 rfl (by decide +kernel) rfl rfl ?_ ?_
      · skip
        (first | (apply L_P; (· exact rfl); (· exact rfl)) | (apply QL_P; (· exact rfl))); (· (apply P_bytesStr; (· exact evA); (· exact pullA); (· exact (show _ = bts [byteOf x.no, byteOf x.f] by rw [e1, e2]; rfl)); (· exact rfl)))
        refine L_nil ?_; refine ⟨rfl, (by first | exact KeepsH.brk (by decide +kernel) | exact KeepsH.sub subA), ?_⟩
        refine AS_one 17 rfl (by decide +kernel) rfl ?_
        refine callA ?_; refine ⟨_, _, shorts_spec gl 4 _ [x.a, x.b, x.c, x.d] rfl (by omega) (by omega), _, cutA, ?_⟩
        rintro v H' ⟨rfl, rfl⟩
        refine L_nil ?_; refine ⟨rfl, (by first | exact KeepsH.brk (by decide +kernel) | exact KeepsH.sub subA), ?_⟩
        refine AS_at 18 (by decide +kernel) ?_; refine takeA ?_
        refine AS_at 21 (by decide +kernel) ?_; refine takeA ?_
        refine AS_at 22 (by decide +kernel) ?_; refine takeA ?_
        refine AS_at 23 (by decide +kernel) ?_; refine takeA ?_
        refine AS_done (by decide +kernel) ?_
        repeat (first | refine stepA ?_ | intro _)
        (first | refine retA ?_ | refine retB ?_); exact ⟨_, ⟨rfl, rfl⟩, subA⟩
      · skip
        refine callA ?_; refine ⟨_, _, shorts_spec gl 4 _ [x.a, x.b, x.c, x.d] rfl (by omega) (by omega), _, cutA, ?_⟩
        rintro v H' ⟨rfl, rfl⟩
        refine L_nil ?_; refine ⟨rfl, (by first | exact KeepsH.brk (by decide +kernel) | exact KeepsH.sub subA), ?_⟩
        refine AS_one 7 rfl (by decide +kernel) rfl ?_
        (first | (apply L_P; (· exact rfl); (· exact rfl)) | (apply QL_P; (· exact rfl))); (· (apply P_bytesStr; (· exact evA); (· exact pullA); (· exact (show _ = bts [byteOf x.no, byteOf x.f] by rw [e1, e2]; rfl)); (· exact rfl)))
        refine L_nil ?_; refine ⟨rfl, (by first | exact KeepsH.brk (by decide +kernel) | exact KeepsH.sub subA), ?_⟩
        refine AS_at 18 (by decide +kernel) ?_; refine takeA ?_
        refine AS_at 21 (by decide +kernel) ?_; refine takeA ?_
        refine AS_at 22 (by decide +kernel) ?_; refine takeA ?_
        refine AS_at 23 (by decide +kernel) ?_; refine takeA ?_
        refine AS_done (by decide +kernel) ?_
        repeat (first | refine stepA ?_ | intro _)
        (first | refine retA ?_ | refine retB ?_); exact ⟨_, ⟨rfl, rfl⟩, subA⟩
    · skip
      refine callA ?_; refine ⟨_, _, shorts_spec gl 4 _ [x.a, x.b, x.c, x.d] rfl (by omega) (by omega), _, cutA, ?_⟩
      rintro v H' ⟨rfl, rfl⟩
      refine L_nil ?_; refine ⟨rfl, (by first | exact KeepsH.brk (by decide +kernel) | exact KeepsH.sub subA), ?_⟩
      refine AS_one 6 rfl (by decide +kernel) rfl ?_
      refine stepA ?_
      intro gb
      refine L_nil ?_; refine ⟨rfl, (by first | exact KeepsH.brk (by decide +kernel) | exact KeepsH.sub subA), ?_⟩
      refine AS_one 7 rfl (by decide +kernel) rfl ?_
      (first | (apply L_P; (· exact rfl); (· exact rfl)) | (apply QL_P; (· exact rfl))); (· (apply P_bytesStr; (· exact evA); (· exact pullA); (· exact (show _ = bts [byteOf x.no, byteOf x.f] by rw [e1, e2]; rfl)); (· exact rfl)))
      refine L_nil ?_; refine ⟨rfl, (by first | exact KeepsH.brk (by decide +kernel) | exact KeepsH.sub subA), ?_⟩
      refine AS_at 18 (by decide +kernel) ?_; refine takeA ?_
      refine AS_at 21 (by decide +kernel) ?_; refine takeA ?_
      refine AS_at 22 (by decide +kernel) ?_; refine takeA ?_
      refine AS_at 23 (by decide +kernel) ?_; refine takeA ?_
      refine AS_done (by decide +kernel) ?_
      repeat (first | refine stepA ?_ | intro _)
      (first | refine retA ?_ | refine retB ?_); exact ⟨_, ⟨rfl, rfl⟩, subA⟩
theorem rbytes_yes (x : CallV) (h : RightP x) : Spec Try.prog 12 [.agg x.cells.toArray] [] fun v H' => v = .tuple #[str (callB x), .int .i64 0] ∧ H' = [] := by
  have hs := h.s
  have e1 := byteOf_wrap x.no
  have e2 := byteOf_wrap x.f
  refine Spec_body Try.func12 rfl Try.ntmps12 rfl (fun w0 => ?_)
  repeat (first | refine stepA ?_ | intro _)
  refine callA ?_; refine ⟨_, _, rright_spec x, _, cutA, ?_⟩
  rintro v H' ⟨rfl, rfl⟩
  rw [decide_eq_true h]
  repeat (first | refine stepA ?_ | intro _)
  refine W_anyH rfl ?_
  refine AS_at 0 (by decide +kernel) ?_; refine takeA ?_
  refine AS_at 1 (by decide +kernel) ?_; refine takeA ?_
  refine AS_at 2 (by decide +kernel) ?_; refine takeA ?_
  refine AS_at 3 (by decide +kernel) ?_; refine takeA ?_
  refine AS_at 4 (by decide +kernel) ?_; refine takeA ?_
  refine AS_at 5 (by decide +kernel) ?_; refine takeA ?_
  refine AS_at 8 (by decide +kernel) ?_; refine takeA ?_
  refine AS_at 9 (by decide +kernel) ?_; refine takeA ?_
  refine AS_at 12 (by decide +kernel) ?_; refine takeA ?_
  refine AS_at 13 (by decide +kernel) ?_; refine takeA ?_
  refine AS_at 16 (by decide +kernel) ?_; refine takeA ?_
  refine AS_at 17 (by decide +kernel) ?_; refine takeA ?_
  refine AS_at 20 (by decide +kernel) ?_; refine takeA ?_
  refine AS_at 21 (by decide +kernel) ?_; refine takeA ?_
  refine AS_at 24 (by decide +kernel) ?_; refine takeA ?_
  refine AS_at 25 (by decide +kernel) ?_; refine takeA ?_
  refine AS_two 6 10 rfl (by decide +kernel) rfl rfl ?_ ?_
  · skip
    refine stepA ?_
    intro gb
    refine L_nil ?_; refine ⟨rfl, (by first | exact KeepsH.brk (by decide +kernel) | exact KeepsH.sub subA), ?_⟩
    refine AS_two 7 10 rfl (by decide +kernel) rfl rfl ?_ ?_
    · skip
      (first | (apply L_P; (· exact rfl); (· exact rfl)) | (apply QL_P; (· exact rfl))); (· (apply P_bytesStr; (· exact evA); (· exact pullA); (· exact (show _ = bts [byteOf x.no, byteOf x.f] by rw [e1, e2]; rfl)); (· exact rfl)))
      refine L_nil ?_; refine ⟨rfl, (by first | exact KeepsH.brk (by decide +kernel) | exact KeepsH.sub subA), ?_⟩
      refine AS_one 10 rfl (by decide +kernel) rfl ?_
      refine callA ?_; refine ⟨_, _, rtwo_spec x.a, _, cutA, ?_⟩
      rintro v H' ⟨rfl, rfl⟩
      refine L_nil ?_; refine ⟨rfl, (by first | exact KeepsH.brk (by decide +kernel) | exact KeepsH.sub subA), ?_⟩
      refine AS_at 11 (by decide +kernel) ?_; refine takeA ?_
      refine AS_one 14 rfl (by decide +kernel) rfl ?_
      refine callA ?_; refine ⟨_, _, rtwo_spec x.b, _, cutA, ?_⟩
      rintro v H' ⟨rfl, rfl⟩
      refine L_nil ?_; refine ⟨rfl, (by first | exact KeepsH.brk (by decide +kernel) | exact KeepsH.sub subA), ?_⟩
      refine AS_at 15 (by decide +kernel) ?_; refine takeA ?_
      refine AS_one 18 rfl (by decide +kernel) rfl ?_
      refine callA ?_; refine ⟨_, _, rtwo_spec x.c, _, cutA, ?_⟩
      rintro v H' ⟨rfl, rfl⟩
      refine L_nil ?_; refine ⟨rfl, (by first | exact KeepsH.brk (by decide +kernel) | exact KeepsH.sub subA), ?_⟩
      refine AS_at 19 (by decide +kernel) ?_; refine takeA ?_
      refine AS_one 22 rfl (by decide +kernel) rfl ?_
      refine callA ?_; refine ⟨_, _, rtwo_spec x.d, _, cutA, ?_⟩
      rintro v H' ⟨rfl, rfl⟩
      refine L_nil ?_; refine ⟨rfl, (by first | exact KeepsH.brk (by decide +kernel) | exact KeepsH.sub subA), ?_⟩
      refine AS_at 23 (by decide +kernel) ?_; refine takeA ?_
      refine AS_at 26 (by decide +kernel) ?_; refine takeA ?_
      refine AS_at 27 (by decide +kernel) ?_; refine takeA ?_
      refine AS_at 28 (by decide +kernel) ?_; refine takeA ?_
      refine AS_done (by decide +kernel) ?_
      repeat (first | refine stepA ?_ | intro _)
      (first | refine retA ?_ | refine retB ?_); exact ⟨_, ⟨by simp only [resVal, callB, twos, List.append_assoc, List.append_nil], rfl⟩, subA⟩
    · skip
      refine callA ?_; refine ⟨_, _, rtwo_spec x.a, _, cutA, ?_⟩
      rintro v H' ⟨rfl, rfl⟩
      refine L_nil ?_; refine ⟨rfl, (by first | exact KeepsH.brk (by decide +kernel) | exact KeepsH.sub subA), ?_⟩
      refine AS_two 7 14 rfl (by decide +kernel) rfl rfl ?_ ?_
      · skip
        (first | (apply L_P; (· exact rfl); (· exact rfl)) | (apply QL_P; (· exact rfl))); (· (apply P_bytesStr; (· exact evA); (· exact pullA); (· exact (show _ = bts [byteOf x.no, byteOf x.f] by rw [e1, e2]; rfl)); (· exact rfl)))
        refine L_nil ?_; refine ⟨rfl, (by first | exact KeepsH.brk (by decide +kernel) | exact KeepsH.sub subA), ?_⟩
        refine AS_at 11 (by decide +kernel) ?_; refine takeA ?_
        refine AS_one 14 rfl (by decide +kernel) rfl ?_
        refine callA ?_; refine ⟨_, _, rtwo_spec x.b, _, cutA, ?_⟩
        rintro v H' ⟨rfl, rfl⟩
        refine L_nil ?_; refine ⟨rfl, (by first | exact KeepsH.brk (by decide +kernel) | exact KeepsH.sub subA), ?_⟩
        refine AS_at 15 (by decide +kernel) ?_; refine takeA ?_
        refine AS_one 18 rfl (by decide +kernel) rfl ?_
        refine callA ?_; refine ⟨_, _, rtwo_spec x.c, _, cutA, ?_⟩
        rintro v H' ⟨rfl, rfl⟩
        refine L_nil ?_; refine ⟨rfl, (by first | exact KeepsH.brk (by decide +kernel) | exact KeepsH.sub subA), ?_⟩
        refine AS_at 19 (by decide +kernel) ?_; refine takeA ?_
        refine AS_one 22 rfl (by decide +kernel) rfl ?_
        refine callA ?_; refine ⟨_, _, rtwo_spec x.d, _, cutA, ?_⟩
        rintro v H' ⟨rfl, rfl⟩
        refine L_nil ?_; refine ⟨rfl, (by first | exact KeepsH.brk (by decide +kernel) | exact KeepsH.sub subA), ?_⟩
        refine AS_at 23 (by decide +kernel) ?_; refine takeA ?_
        refine AS_at 26 (by decide +kernel) ?_; refine takeA ?_
        refine AS_at 27 (by decide +kernel) ?_; refine takeA ?_
        refine AS_at 28 (by decide +kernel) ?_; refine takeA ?_
        refine AS_done (by decide +kernel) ?_
        repeat (first | refine stepA ?_ | intro _)
        (first | refine retA ?_ | refine retB ?_); exact ⟨_, ⟨by simp only [resVal, callB, twos, List.append_assoc, List.append_nil], rfl⟩, subA⟩
      · skip
        refine callA ?_; refine ⟨_, _, rtwo_spec x.b, _, cutA, ?_⟩
        rintro v H' ⟨rfl, rfl⟩
        refine L_nil ?_; refine ⟨rfl, (by first | exact KeepsH.brk (by decide +kernel) | exact KeepsH.sub subA), ?_⟩
        refine AS_two 7 18 rfl (by decide +kernel) rfl rfl ?_ ?_
        · skip
          (first | (apply L_P; (· exact rfl); (· exact rfl)) | (apply QL_P; (· exact rfl))); (· (apply P_bytesStr; (· exact evA); (· exact pullA); (· exact (show _ = bts [byteOf x.no, byteOf x.f] by rw [e1, e2]; rfl)); (· exact rfl)))
          refine L_nil ?_; refine ⟨rfl, (by first | exact KeepsH.brk (by decide +kernel) | exact KeepsH.sub subA), ?_⟩
          refine AS_at 11 (by decide +kernel) ?_; refine takeA ?_
          refine AS_at 15 (by decide +kernel) ?_; refine takeA ?_
          refine AS_one 18 rfl (by decide +kernel) rfl ?_
          refine callA ?_; refine ⟨_, _, rtwo_spec x.c, _, cutA, ?_⟩
          rintro v H' ⟨rfl, rfl⟩
          refine L_nil ?_; refine ⟨rfl, (by first | exact KeepsH.brk (by decide +kernel) | exact KeepsH.sub subA), ?_⟩
          refine AS_at 19 (by decide +kernel) ?_; refine takeA ?_
          refine AS_one 22 rfl (by decide +kernel) rfl ?_
          refine callA ?_; refine ⟨_, _, rtwo_spec x.d, _, cutA, ?_⟩
          rintro v H' ⟨rfl, rfl⟩
          refine L_nil ?_; refine ⟨rfl, (by first | exact KeepsH.brk (by decide +kernel) | exact KeepsH.sub subA), ?_⟩
          refine AS_at 23 (by decide +kernel) ?_; refine takeA ?_
          refine AS_at 26 (by decide +kernel) ?_; refine takeA ?_
          refine AS_at 27 (by decide +kernel) ?_; refine takeA ?_
          refine AS_at 28 (by decide +kernel) ?_; refine takeA ?_
          refine AS_done (by decide +kernel) ?_
          repeat (first | refine stepA ?_ | intro _)
          (first | refine retA ?_ | refine retB ?_); exact ⟨_, ⟨by simp only [resVal, callB, twos, List.append_assoc, List.append_nil], rfl⟩, subA⟩
        · skip
          refine callA ?_; refine ⟨_, _, rtwo_spec x.c, _, cutA, ?_⟩
          rintro v H' ⟨rfl, rfl⟩
          refine L_nil ?_; refine ⟨rfl, (by first | exact KeepsH.brk (by decide +kernel) | exact KeepsH.sub subA), ?_⟩
          refine AS_two 7 22 rfl (by decide +kernel) rfl rfl ?_ ?_
          · skip
            (first | (apply L_P; (· exact rfl); (· exact rfl)) | (apply QL_P; (· exact rfl))); (· (apply P_bytesStr; (· exact evA); (· exact pullA); (· exact (show _ = bts [byteOf x.no, byteOf x.f] by rw [e1, e2]; rfl)); (· exact rfl)))
            refine L_nil ?_; refine ⟨rfl, (by first | exact KeepsH.brk (by decide +kernel) | exact KeepsH.sub subA), ?_⟩
            refine AS_at 11 (by decide +kernel) ?_; refine takeA ?_
            refine AS_at 15 (by decide +kernel) ?_; refine takeA ?_
            refine AS_at 19 (by decide +kernel) ?_; refine takeA ?_
            refine AS_one 22 rfl (by decide +kernel) rfl ?_
            refine callA ?_; refine ⟨_, _, rtwo_spec x.d, _, cutA, ?_⟩
            rintro v H' ⟨rfl, rfl⟩
            refine L_nil ?_; refine ⟨rfl, (by first | exact KeepsH.brk (by decide +kernel) | exact KeepsH.sub subA), ?_⟩
            refine AS_at 23 (by decide +kernel) ?_; refine takeA ?_
            refine AS_at 26 (by decide +kernel) ?_; refine takeA ?_
            refine AS_at 27 (by decide +kernel) ?_; refine takeA ?_
            refine AS_at 28 (by decide +kernel) ?_; refine takeA ?_
            refine AS_done (by decide +kernel) ?_
            repeat (first | refine stepA ?_ | intro _)
            (first | refine retA ?_ | refine retB ?_); exact ⟨_, ⟨by simp only [resVal, callB, twos, List.append_assoc, List.append_nil], rfl⟩, subA⟩
          · skip
            refine callA ?_; refine ⟨_, _, rtwo_spec x.d, _, cutA, ?_⟩
            rintro v H' ⟨rfl, rfl⟩
            refine L_nil ?_; refine ⟨rfl, (by first | exact KeepsH.brk (by decide +kernel) | exact KeepsH.sub subA), ?_⟩
            refine AS_one 7 rfl (by decide +kernel) rfl ?_
            (first | (apply L_P; (· exact rfl); (· exact rfl)) | (apply QL_P; (· exact rfl))); (· (apply P_bytesStr; (· exact evA); (· exact pullA); (· exact (show _ = bts [byteOf x.no, byteOf x.f] by rw [e1, e2]; rfl)); (· exact rfl)))
            refine L_nil ?_; refine ⟨rfl, (by first | exact KeepsH.brk (by decide +kernel) | exact KeepsH.sub subA), ?_⟩
            refine AS_at 11 (by decide +kernel) ?_; refine takeA ?_
            refine AS_at 15 (by decide +kernel) ?_; refine takeA ?_
            refine AS_at 19 (by decide +kernel) ?_; refine takeA ?_
            refine AS_at 23 (by decide +kernel) ?_; refine takeA ?_
            refine AS_at 26 (by decide +kernel) ?_; refine takeA ?_
            refine AS_at 27 (by decide +kernel) ?_; refine takeA ?_
            refine AS_at 28 (by decide +kernel) ?_; refine takeA ?_
            refine AS_done (by decide +kernel) ?_
            repeat (first | refine stepA ?_ | intro _)
            (first | refine retA ?_ | refine retB ?_); exact ⟨_, ⟨by simp only [resVal, callB, twos, List.append_assoc, List.append_nil], rfl⟩, subA⟩
  · skip
    refine callA ?_; refine ⟨_, _, rtwo_spec x.a, _, cutA, ?_⟩
    rintro v H' ⟨rfl, rfl⟩
    refine L_nil ?_; refine ⟨rfl, (by first | exact KeepsH.brk (by decide +kernel) | exact KeepsH.sub subA), ?_⟩
    refine AS_two 6 14 rfl (by decide +kernel) rfl rfl ?_ ?_
    · skip
      refine stepA ?_
      intro gb
      refine L_nil ?_; refine ⟨rfl, (by first | exact KeepsH.brk (by decide +kernel) | exact KeepsH.sub subA), ?_⟩
      refine AS_two 7 14 rfl (by decide +kernel) rfl rfl ?_ ?_
      · skip
        (first | (apply L_P; (· exact rfl); (· exact rfl)) | (apply QL_P; (· exact rfl))); (· (apply P_bytesStr; (· exact evA); (· exact pullA); (· exact (show _ = bts [byteOf x.no, byteOf x.f] by rw [e1, e2]; rfl)); (· exact rfl)))
        refine L_nil ?_; refine ⟨rfl, (by first | exact KeepsH.brk (by decide +kernel) | exact KeepsH.sub subA), ?_⟩
        refine AS_at 11 (by decide +kernel) ?_; refine takeA ?_
        refine AS_one 14 rfl (by decide +kernel) rfl ?_
        refine callA ?_; refine ⟨_, _, rtwo_spec x.b, _, cutA, ?_⟩
        rintro v H' ⟨rfl, rfl⟩
        refine L_nil ?_; refine ⟨rfl, (by first | exact KeepsH.brk (by decide +kernel) | exact KeepsH.sub subA), ?_⟩
        refine AS_at 15 (by decide +kernel) ?_; refine takeA ?_
        refine AS_one 18 rfl (by decide +kernel) rfl ?_
        refine callA ?_; refine ⟨_, _, rtwo_spec x.c, _, cutA, ?_⟩
        rintro v H' ⟨rfl, rfl⟩
        refine L_nil ?_; refine ⟨rfl, (by first | exact KeepsH.brk (by decide +kernel) | exact KeepsH.sub subA), ?_⟩
        refine AS_at 19 (by decide +kernel) ?_; refine takeA ?_
        refine AS_one 22 rfl (by decide +kernel) rfl ?_
        refine callA ?_; refine ⟨_, _, rtwo_spec x.d, _, cutA, ?_⟩
        rintro v H' ⟨rfl, rfl⟩
        refine L_nil ?_; refine ⟨rfl, (by first | exact KeepsH.brk (by decide +kernel) | exact KeepsH.sub subA), ?_⟩
        refine AS_at 23 (by decide +kernel) ?_; refine takeA ?_
        refine AS_at 26 (by decide +kernel) ?_; refine takeA ?_
        refine AS_at 27 (by decide +kernel) ?_; refine takeA ?_
        refine AS_at 28 (by decide +kernel) ?_; refine takeA ?_
        refine AS_done (by decide +kernel) ?_
        repeat (first | refine stepA ?_ | intro _)
        (first | refine retA ?_ | refine retB ?_); exact ⟨_, ⟨by simp only [resVal, callB, twos, List.append_assoc, List.append_nil], rfl⟩, subA⟩
      · skip
        refine callA ?_; refine ⟨_, _, rtwo_spec x.b, _, cutA, ?_⟩
        rintro v H' ⟨rfl, rfl⟩
        refine L_nil ?_; refine ⟨rfl, (by first | exact KeepsH.brk (by decide +kernel) | exact KeepsH.sub subA), ?_⟩
        refine AS_two 7 18 rfl (by decide +kernel) rfl rfl ?_ ?_
        · skip
          (first | (apply L_P; (· exact rfl); (· exact rfl)) | (apply QL_P; (· exact rfl))); (· (apply P_bytesStr; (· exact evA); (· exact pullA); (· exact (show _ = bts [byteOf x.no, byteOf x.f] by rw [e1, e2]; rfl)); (· exact rfl)))
          refine L_nil ?_; refine ⟨rfl, (by first | exact KeepsH.brk (by decide +kernel) | exact KeepsH.sub subA), ?_⟩
          refine AS_at 11 (by decide +kernel) ?_; refine takeA ?_
          refine AS_at 15 (by decide +kernel) ?_; refine takeA ?_
          refine AS_one 18 rfl (by decide +kernel) rfl ?_
          refine callA ?_; refine ⟨_, _, rtwo_spec x.c, _, cutA, ?_⟩
          rintro v H' ⟨rfl, rfl⟩
          refine L_nil ?_; refine ⟨rfl, (by first | exact KeepsH.brk (by decide +kernel) | exact KeepsH.sub subA), ?_⟩
          refine AS_at 19 (by decide +kernel) ?_; refine takeA ?_
          refine AS_one 22 rfl (by decide +kernel) rfl ?_
          refine callA ?_; refine ⟨_, _, rtwo_spec x.d, _, cutA, ?_⟩
          rintro v H' ⟨rfl, rfl⟩
          refine L_nil ?_; refine ⟨rfl, (by first | exact KeepsH.brk (by decide +kernel) | exact KeepsH.sub subA), ?_⟩
          refine AS_at 23 (by decide +kernel) ?_; refine takeA ?_
          refine AS_at 26 (by decide +kernel) ?_; refine takeA ?_
          refine AS_at 27 (by decide +kernel) ?_; refine takeA ?_
          refine AS_at 28 (by decide +kernel) ?_; refine takeA ?_
          refine AS_done (by decide +kernel) ?_
          repeat (first | refine stepA ?_ | intro _)
          (first | refine retA ?_ | refine retB ?_); exact ⟨_, ⟨by simp only [resVal, callB, twos, List.append_assoc, List.append_nil], rfl⟩, subA⟩
        · skip
          refine callA ?_; refine ⟨_, _, rtwo_spec x.c, _, cutA, ?_⟩
          rintro v H' ⟨rfl, rfl⟩
          refine L_nil ?_; refine ⟨rfl, (by first | exact KeepsH.brk (by decide +kernel) | exact KeepsH.sub subA), ?_⟩
          refine AS_two 7 22 rfl (by decide +kernel) rfl rfl ?_ ?_
          · skip
            (first | (apply L_P; (· exact rfl); (· exact rfl)) | (apply QL_P; (· exact rfl))); (· (apply P_bytesStr; (· exact evA); (· exact pullA); (· exact (show _ = bts [byteOf x.no, byteOf x.f] by rw [e1, e2]; rfl)); (· exact rfl)))
            refine L_nil ?_; refine ⟨rfl, (by first | exact KeepsH.brk (by decide +kernel) | exact KeepsH.sub subA), ?_⟩
            refine AS_at 11 (by decide +kernel) ?_; refine takeA ?_
            refine AS_at 15 (by decide +kernel) ?_; refine takeA ?_
            refine AS_at 19 (by decide +kernel) ?_; refine takeA ?_
            refine AS_one 22 rfl (by decide +kernel) rfl ?_
            refine callA ?_; refine ⟨_, _, rtwo_spec x.d, _, cutA, ?_⟩
            rintro v H' ⟨rfl, rfl⟩
            refine L_nil ?_; refine ⟨rfl, (by first | exact KeepsH.brk (by decide +kernel) | exact KeepsH.sub subA), ?_⟩
            refine AS_at 23 (by decide +kernel) ?_; refine takeA ?_
            refine AS_at 26 (by decide +kernel) ?_; refine takeA ?_
            refine AS_at 27 (by decide +kernel) ?_; refine takeA ?_
            refine AS_at 28 (by decide +kernel) ?_; refine takeA ?_
            refine AS_done (by decide +kernel) ?_
            repeat (first | refine stepA ?_ | intro _)
            (first | refine retA ?_ | refine retB ?_); exact ⟨_, ⟨by simp only [resVal, callB, twos, List.append_assoc, List.append_nil], rfl⟩, subA⟩
          · skip
            refine callA ?_; refine ⟨_, _, rtwo_spec x.d, _, cutA, ?_⟩
            rintro v H' ⟨rfl, rfl⟩
            refine L_nil ?_; refine ⟨rfl, (by first | exact KeepsH.brk (by decide +kernel) | exact KeepsH.sub subA), ?_⟩
            refine AS_one 7 rfl (by decide +kernel) rfl ?_
            (first | (apply L_P; (· exact rfl); (· exact rfl)) | (apply QL_P; (· exact rfl))); (· (apply P_bytesStr; (· exact evA); (· exact pullA); (· exact (show _ = bts [byteOf x.no, byteOf x.f] by rw [e1, e2]; rfl)); (· exact rfl)))
            refine L_nil ?_; refine ⟨rfl, (by first | exact KeepsH.brk (by decide +kernel) | exact KeepsH.sub subA), ?_⟩
            refine AS_at 11 (by decide +kernel) ?_; refine takeA ?_
            refine AS_at 15 (by decide +kernel) ?_; refine takeA ?_
            refine AS_at 19 (by decide +kernel) ?_; refine takeA ?_
            refine AS_at 23 (by decide +kernel) ?_; refine takeA ?_
            refine AS_at 26 (by decide +kernel) ?_; refine takeA ?_
            refine AS_at 27 (by decide +kernel) ?_; refine takeA ?_
            refine AS_at 28 (by decide +kernel) ?_; refine takeA ?_
            refine AS_done (by decide +kernel) ?_
            repeat (first | refine stepA ?_ | intro _)
            (first | refine retA ?_ | refine retB ?_); exact ⟨_, ⟨by simp only [resVal, callB, twos, List.append_assoc, List.append_nil], rfl⟩, subA⟩
    · skip
      refine callA ?_; refine ⟨_, _, rtwo_spec x.b, _, cutA, ?_⟩
      rintro v H' ⟨rfl, rfl⟩
      refine L_nil ?_; refine ⟨rfl, (by first | exact KeepsH.brk (by decide +kernel) | exact KeepsH.sub subA), ?_⟩
      refine AS_two 6 18 rfl (by decide +kernel) rfl rfl ?_ ?_
      · skip
        refine stepA ?_
        intro gb
        refine L_nil ?_; refine ⟨rfl, (by first | exact KeepsH.brk (by decide +kernel) | exact KeepsH.sub subA), ?_⟩
        refine AS_two 7 18 rfl (by decide +kernel) rfl rfl ?_ ?_
        · skip
          (first | (apply L_P; (· exact rfl); (· exact rfl)) | (apply QL_P; (· exact rfl))); (· (apply P_bytesStr; (· exact evA); (· exact pullA); (· exact (show _ = bts [byteOf x.no, byteOf x.f] by rw [e1, e2]; rfl)); (· exact rfl)))
          refine L_nil ?_; refine ⟨rfl, (by first | exact KeepsH.brk (by decide +kernel) | exact KeepsH.sub subA), ?_⟩
          refine AS_at 11 (by decide +kernel) ?_; refine takeA ?_
          refine AS_at 15 (by decide +kernel) ?_; refine takeA ?_
          refine AS_one 18 rfl (by decide +kernel) rfl ?_
          refine callA ?_; refine ⟨_, _, rtwo_spec x.c, _, cutA, ?_⟩
          rintro v H' ⟨rfl, rfl⟩
          refine L_nil ?_; refine ⟨rfl, (by first | exact KeepsH.brk (by decide +kernel) | exact KeepsH.sub subA), ?_⟩
          refine AS_at 19 (by decide +kernel) ?_; refine takeA ?_
          refine AS_one 22 rfl (by decide +kernel) rfl ?_
          refine callA ?_; refine ⟨_, _, rtwo_spec x.d, _, cutA, ?_⟩
          rintro v H' ⟨rfl, rfl⟩
          refine L_nil ?_; refine ⟨rfl, (by first | exact KeepsH.brk (by decide +kernel) | exact KeepsH.sub subA), ?_⟩
          refine AS_at 23 (by decide +kernel) ?_; refine takeA ?_
          refine AS_at 26 (by decide +kernel) ?_; refine takeA ?_
          refine AS_at 27 (by decide +kernel) ?_; refine takeA ?_
          refine AS_at 28 (by decide +kernel) ?_; refine takeA ?_
          refine AS_done (by decide +kernel) ?_
          repeat (first | refine stepA ?_ | intro _)
          (first | refine retA ?_ | refine retB ?_); exact ⟨_, ⟨by simp only [resVal, callB, twos, List.append_assoc, List.append_nil], rfl⟩, subA⟩
        · skip
          refine callA ?_; refine ⟨_, _, rtwo_spec x.c, _, cutA, ?_⟩
          rintro v H' ⟨rfl, rfl⟩
          refine L_nil ?_; refine ⟨rfl, (by first | exact KeepsH.brk (by decide +kernel) | exact KeepsH.sub subA), ?_⟩
          refine AS_two 7 22 rfl (by decide +kernel) rfl rfl ?_ ?_
          · skip
            (first | (apply L_P; (· exact rfl); (· exact rfl)) | (apply QL_P; (· exact rfl))); (· (apply P_bytesStr; (· exact evA); (· exact pullA); (· exact (show _ = bts [byteOf x.no, byteOf x.f] by rw [e1, e2]; rfl)); (· exact rfl)))
            refine L_nil ?_; refine ⟨rfl, (by first | exact KeepsH.brk (by decide +kernel) | exact KeepsH.sub subA), ?_⟩
            refine AS_at 11 (by decide +kernel) ?_; refine takeA ?_
            refine AS_at 15 (by decide +kernel) ?_; refine takeA ?_
            refine AS_at 19 (by decide +kernel) ?_; refine takeA ?_
            refine AS_one 22 rfl (by decide +kernel) rfl ?_
            refine callA ?_; refine ⟨_, _, rtwo_spec x.d, _, cutA, ?_⟩
            rintro v H' ⟨rfl, rfl⟩
            refine L_nil ?_; refine ⟨rfl, (by first | exact KeepsH.brk (by decide +kernel) | exact KeepsH.sub subA), ?_⟩
            refine AS_at 23 (by decide +kernel) ?_; refine takeA ?_
            refine AS_at 26 (by decide +kernel) ?_; refine takeA ?_
            refine AS_at 27 (by decide +kernel) ?_; refine takeA ?_
            refine AS_at 28 (by decide +kernel) ?_; refine takeA ?_
            refine AS_done (by decide +kernel) ?_
            repeat (first | refine stepA ?_ | intro _)
            (first | refine retA ?_ | refine retB ?_); exact ⟨_, ⟨by simp only [resVal, callB, twos, List.append_assoc, List.append_nil], rfl⟩, subA⟩
          · skip
            refine callA ?_; refine ⟨_, _, rtwo_spec x.d, _, cutA, ?_⟩
            rintro v H' ⟨rfl, rfl⟩
            refine L_nil ?_; refine ⟨rfl, (by first | exact KeepsH.brk (by decide +kernel) | exact KeepsH.sub subA), ?_⟩
            refine AS_one 7 rfl (by decide +kernel) rfl ?_
            (first | (apply L_P; (· exact rfl); (· exact rfl)) | (apply QL_P; (· exact rfl))); (· (apply P_bytesStr; (· exact evA); (· exact pullA); (· exact (show _ = bts [byteOf x.no, byteOf x.f] by rw [e1, e2]; rfl)); (· exact rfl)))
            refine L_nil ?_; refine ⟨rfl, (by first | exact KeepsH.brk (by decide +kernel) | exact KeepsH.sub subA), ?_⟩
            refine AS_at 11 (by decide +kernel) ?_; refine takeA ?_
            refine AS_at 15 (by decide +kernel) ?_; refine takeA ?_
            refine AS_at 19 (by decide +kernel) ?_; refine takeA ?_
            refine AS_at 23 (by decide +kernel) ?_; refine takeA ?_
            refine AS_at 26 (by decide +kernel) ?_; refine takeA ?_
            refine AS_at 27 (by decide +kernel) ?_; refine takeA ?_
            refine AS_at 28 (by decide +kernel) ?_; refine takeA ?_
            refine AS_done (by decide +kernel) ?_
            repeat (first | refine stepA ?_ | intro _)
            (first | refine retA ?_ | refine retB ?_); exact ⟨_, ⟨by simp only [resVal, callB, twos, List.append_assoc, List.append_nil], rfl⟩, subA⟩
      · skip
        refine callA ?_; refine ⟨_, _, rtwo_spec x.c, _, cutA, ?_⟩
        rintro v H' ⟨rfl, rfl⟩
        refine L_nil ?_; refine ⟨rfl, (by first | exact KeepsH.brk (by decide +kernel) | exact KeepsH.sub subA), ?_⟩
        refine AS_two 6 22 rfl (by decide +kernel) rfl rfl ?_ ?_
        · skip
          refine stepA ?_
          intro gb
          refine L_nil ?_; refine ⟨rfl, (by first | exact KeepsH.brk (by decide +kernel) | exact KeepsH.sub subA), ?_⟩
          refine AS_two 7 22 rfl (by decide +kernel) rfl rfl ?_ ?_
          · skip
            (first | (apply L_P; (· exact rfl); (· exact rfl)) | (apply QL_P; (· exact rfl))); (· (apply P_bytesStr; (· exact evA); (· exact pullA); (· exact (show _ = bts [byteOf x.no, byteOf x.f] by rw [e1, e2]; rfl)); (· exact rfl)))
            refine L_nil ?_; refine ⟨rfl, (by first | exact KeepsH.brk (by decide +kernel) | exact KeepsH.sub subA), ?_⟩
            refine AS_at 11 (by decide +kernel) ?_; refine takeA ?_
            refine AS_at 15 (by decide +kernel) ?_; refine takeA ?_
            refine AS_at 19 (by decide +kernel) ?_; refine takeA ?_
            refine AS_one 22 rfl (by decide +kernel) rfl ?_
            refine callA ?_; refine ⟨_, _, rtwo_spec x.d, _, cutA, ?_⟩
            rintro v H' ⟨rfl, rfl⟩
            refine L_nil ?_; refine ⟨rfl, (by first | exact KeepsH.brk (by decide +kernel) | exact KeepsH.sub subA), ?_⟩
            refine AS_at 23 (by decide +kernel) ?_; refine takeA ?_
            refine AS_at 26 (by decide +kernel) ?_; refine takeA ?_
            refine AS_at 27 (by decide +kernel) ?_; refine takeA ?_
            refine AS_at 28 (by decide +kernel) ?_; refine takeA ?_
            refine AS_done (by decide +kernel) ?_
            repeat (first | refine stepA ?_ | intro _)
            (first | refine retA ?_ | refine retB ?_); exact ⟨_, ⟨by simp only [resVal, callB, twos, List.append_assoc, List.append_nil], rfl⟩, subA⟩
          · skip
            refine callA ?_; refine ⟨_, _, rtwo_spec x.d, _, cutA, ?_⟩
            rintro v H' ⟨rfl, rfl⟩
            refine L_nil ?_; refine ⟨rfl, (by first | exact KeepsH.brk (by decide +kernel) | exact KeepsH.sub subA), ?_⟩
            refine AS_one 7 rfl (by decide +kernel) rfl ?_
            (first | (apply L_P; (· exact rfl); (· exact rfl)) | (apply QL_P; (· exact rfl))); (· (apply P_bytesStr; (· exact evA); (· exact pullA); (· exact (show _ = bts [byteOf x.no, byteOf x.f] by rw [e1, e2]; rfl)); (· exact rfl)))
            refine L_nil ?_; refine ⟨rfl, (by first | exact KeepsH.brk (by decide +kernel) | exact KeepsH.sub subA), ?_⟩
            refine AS_at 11 (by decide +kernel) ?_; refine takeA ?_
            refine AS_at 15 (by decide +kernel) ?_; refine takeA ?_
            refine AS_at 19 (by decide +kernel) ?_; refine takeA ?_
            refine AS_at 23 (by decide +kernel) ?_; refine takeA ?_
            refine AS_at 26 (by decide +kernel) ?_; refine takeA ?_
            refine AS_at 27 (by decide +kernel) ?_; refine takeA ?_
            refine AS_at 28 (by decide +kernel) ?_; refine takeA ?_
            refine AS_done (by decide +kernel) ?_
            repeat (first | refine stepA ?_ | intro _)
            (first | refine retA ?_ | refine retB ?_); exact ⟨_, ⟨by simp only [resVal, callB, twos, List.append_assoc, List.append_nil], rfl⟩, subA⟩
        · skip
          refine callA ?_; refine ⟨_, _, rtwo_spec x.d, _, cutA, ?_⟩
          rintro v H' ⟨rfl, rfl⟩
          refine L_nil ?_; refine ⟨rfl, (by first | exact KeepsH.brk (by decide +kernel) | exact KeepsH.sub subA), ?_⟩
          refine AS_one 6 rfl (by decide +kernel) rfl ?_
          refine stepA ?_
          intro gb
          refine L_nil ?_; refine ⟨rfl, (by first | exact KeepsH.brk (by decide +kernel) | exact KeepsH.sub subA), ?_⟩
          refine AS_one 7 rfl (by decide +kernel) rfl ?_
          (first | (apply L_P; (· exact rfl); (· exact rfl)) | (apply QL_P; (· exact rfl))); (· (apply P_bytesStr; (· exact evA); (· exact pullA); (· exact (show _ = bts [byteOf x.no, byteOf x.f] by rw [e1, e2]; rfl)); (· exact rfl)))
          refine L_nil ?_; refine ⟨rfl, (by first | exact KeepsH.brk (by decide +kernel) | exact KeepsH.sub subA), ?_⟩
          refine AS_at 11 (by decide +kernel) ?_; refine takeA ?_
          refine AS_at 15 (by decide +kernel) ?_; refine takeA ?_
          refine AS_at 19 (by decide +kernel) ?_; refine takeA ?_
          refine AS_at 23 (by decide +kernel) ?_; refine takeA ?_
          refine AS_at 26 (by decide +kernel) ?_; refine takeA ?_
          refine AS_at 27 (by decide +kernel) ?_; refine takeA ?_
          refine AS_at 28 (by decide +kernel) ?_; refine takeA ?_
          refine AS_done (by decide +kernel) ?_
          repeat (first | refine stepA ?_ | intro _)
          (first | refine retA ?_ | refine retB ?_); exact ⟨_, ⟨by simp only [resVal, callB, twos, List.append_assoc, List.append_nil], rfl⟩, subA⟩
end Go.Proofs.Ytkcfckjiagjocaa
