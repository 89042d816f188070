/-
  Operations' bytes: OpBytes, of the document's answer.
-/
import Derived.Test.YtkcfckjiagjocaaCh1
namespace Go.Proofs.Ytkcfckjiagjocaa
open Go.RowKit
attribute [local irreducible] W L QL PureOp thenQ blockQ retQ Spec IterOk YSpec roundQ scopeQ noGoQ
attribute [local irreducible] AS ASi
set_option maxHeartbeats 12800000
theorem ropBytes (g o n c : Nat) (M : Array Value) (E : TypeId) (fr : Nat × Nat) (l : List OpV) (hM : OpsAt M.toList o l) (hl : l.length = n) (hn : n ≤ 1000) :
    Spec Try.prog 24 [.slice (some ⟨g, o, none⟩) n c] [(g, .oth (.cells M E fr))] fun v H' => ((AllOk l ∧ v = .tuple #[str (opsB l), .int .i64 0]) ∨ (¬ AllOk l ∧ v = .tuple #[str [], .int .i64 170])) ∧ H' = [(g, .oth (.cells M E fr))] := by
  refine Spec_body Try.func24 rfl Try.ntmps24 rfl (fun w0 => ?_)
  repeat (first | refine stepA ?_ | intro _)
  refine W_loop (fun k : Nat => [(0, .slice (some ⟨g, o, none⟩) n c), (4, str (opsB (l.take k))), (5, .int .i64 (k : Int))]) (fun _ => [(g, .oth (.cells M E fr))])
    (fun k => k ≤ n ∧ ∀ (j : Nat) (y : OpV), j < k → l[j]? = some y → OpOk y) (fun k => n - k) 0 ⟨by omega, fun j y hj => absurd hj (by simp)⟩ sublA subA ?_
  rintro k ⟨hk, hbef⟩
  by_cases hlt : k < n
  · obtain ⟨x, hx⟩ : ∃ x, l[k]? = some x := ⟨l[k]'(by omega), by simp [hl, hlt]⟩
    have c0 := hM.cell hx 0 (by omega)
    have c1 := hM.cell hx 1 (by omega)
    have c2 := hM.cell hx 2 (by omega)
    have hbl := opsB_len (l.take k)
    rw [List.length_take] at hbl
    by_cases hd : Sh x.delta
    · by_cases h1 : x.num < 0
      · skip
        repeat (first | refine stepA ?_ | intro _)
        refine callA ?_; refine ⟨_, _, rshortT x.delta hd, _, cutA, ?_⟩
        rintro v H' ⟨rfl, rfl⟩
        simp only [List.cons_append, List.nil_append]
        repeat (first | refine stepA ?_ | intro _)
        (first | refine retA ?_ | refine retB ?_)
        exact ⟨_, ⟨.inr ⟨fun q => absurd (q k x hx).2 (by omega), rfl⟩, rfl⟩, subA⟩
      by_cases h2 : x.num > 255
      · skip
        repeat (first | refine stepA ?_ | intro _)
        refine callA ?_; refine ⟨_, _, rshortT x.delta hd, _, cutA, ?_⟩
        rintro v H' ⟨rfl, rfl⟩
        simp only [List.cons_append, List.nil_append]
        repeat (first | refine stepA ?_ | intro _)
        (first | refine retA ?_ | refine retB ?_)
        exact ⟨_, ⟨.inr ⟨fun q => absurd (q k x hx).2 (by omega), rfl⟩, rfl⟩, subA⟩
      by_cases h3 : x.flags < 0
      · skip
        repeat (first | refine stepA ?_ | intro _)
        refine callA ?_; refine ⟨_, _, rshortT x.delta hd, _, cutA, ?_⟩
        rintro v H' ⟨rfl, rfl⟩
        simp only [List.cons_append, List.nil_append]
        repeat (first | refine stepA ?_ | intro _)
        (first | refine retA ?_ | refine retB ?_)
        exact ⟨_, ⟨.inr ⟨fun q => absurd (q k x hx).2 (by omega), rfl⟩, rfl⟩, subA⟩
      by_cases h4 : x.flags > 255
      · skip
        repeat (first | refine stepA ?_ | intro _)
        refine callA ?_; refine ⟨_, _, rshortT x.delta hd, _, cutA, ?_⟩
        rintro v H' ⟨rfl, rfl⟩
        simp only [List.cons_append, List.nil_append]
        repeat (first | refine stepA ?_ | intro _)
        (first | refine retA ?_ | refine retB ?_)
        exact ⟨_, ⟨.inr ⟨fun q => absurd (q k x hx).2 (by omega), rfl⟩, rfl⟩, subA⟩
      have e1 := byteOf_wrap x.num
      have e2 := byteOf_wrap x.flags
      repeat (first | refine stepA ?_ | intro _)
      refine callA ?_; refine ⟨_, _, rshortT x.delta hd, _, cutA, ?_⟩
      rintro v H' ⟨rfl, rfl⟩
      simp only [List.cons_append, List.nil_append]
      repeat (first | refine stepA ?_ | intro _)
      refine W_anyH rfl ?_
      refine AS_at 0 (by decide +kernel) ?_; refine takeA ?_
      refine AS_at 1 (by decide +kernel) ?_; refine takeA ?_
      refine AS_at 2 (by decide +kernel) ?_; refine takeA ?_
      refine AS_at 3 (by decide +kernel) ?_; refine takeA ?_
      refine AS_at 4 (by decide +kernel) ?_; refine takeA ?_
      refine AS_at 5 (by decide +kernel) ?_; refine takeA ?_
      refine AS_at 6 (by decide +kernel) ?_; refine takeA ?_
      refine AS_at 10 (by decide +kernel) ?_; refine takeA ?_
      refine AS_at 11 (by decide +kernel) ?_; refine takeA ?_
      refine AS_at 12 (by decide +kernel) ?_; refine takeA ?_
      refine AS_at 13 (by decide +kernel) ?_; refine takeA ?_
      refine AS_at 14 (by decide +kernel) ?_; refine takeA ?_
      refine AS_at 17 (by decide +kernel) ?_; refine takeA ?_
      refine AS_at 18 (by decide +kernel) ?_; refine takeA ?_
      refine AS_at 19 (by decide +kernel) ?_; refine takeA ?_
      refine AS_at 20 (by decide +kernel) ?_; refine takeA ?_
      refine AS_at 21 (by decide +kernel) ?_; refine takeA ?_
      refine AS_at 22 (by decide +kernel) ?_; refine takeA ?_
      refine AS_three 7 15 23 rfl (by decide +kernel) rfl rfl rfl ?_ ?_ ?_
      · skip
        refine stepA ?_
        intro ga
        refine L_nil ?_; refine ⟨rfl, (by first | exact KeepsH.brk (by decide +kernel) | exact KeepsH.sub subA), ?_⟩
        refine AS_three 8 15 23 rfl (by decide +kernel) rfl rfl rfl ?_ ?_ ?_
        · skip
          (first | (apply L_P; (· exact rfl); (· exact rfl)) | (apply QL_P; (· exact rfl))); (· (apply P_bytesStr; (· exact evA); (· exact pullA); (· exact (show _ = bts [byteOf x.num] by rw [e1]; rfl)); (· exact rfl)))
          refine L_nil ?_; refine ⟨rfl, (by first | exact KeepsH.brk (by decide +kernel) | exact KeepsH.sub subA), ?_⟩
          refine AS_at 9 (by decide +kernel) ?_; refine takeA ?_
          refine AS_two 15 23 rfl (by decide +kernel) rfl rfl ?_ ?_
          · skip
            refine callA ?_; refine ⟨_, _, rtwo_spec x.delta, _, cutA, ?_⟩
            rintro v H' ⟨rfl, rfl⟩
            simp only [List.cons_append, List.nil_append]
            refine L_nil ?_; refine ⟨rfl, (by first | exact KeepsH.brk (by decide +kernel) | exact KeepsH.sub subA), ?_⟩
            refine AS_at 16 (by decide +kernel) ?_; refine takeA ?_
            refine AS_one 23 rfl (by decide +kernel) rfl ?_
            refine stepA ?_
            intro gc
            refine L_nil ?_; refine ⟨rfl, (by first | exact KeepsH.brk (by decide +kernel) | exact KeepsH.sub subA), ?_⟩
            refine AS_one 24 rfl (by decide +kernel) rfl ?_
            (first | (apply L_P; (· exact rfl); (· exact rfl)) | (apply QL_P; (· exact rfl))); (· (apply P_bytesStr; (· exact evA); (· exact pullA); (· exact (show _ = bts [byteOf x.flags] by rw [e2]; rfl)); (· exact rfl)))
            refine L_nil ?_; refine ⟨rfl, (by first | exact KeepsH.brk (by decide +kernel) | exact KeepsH.sub subA), ?_⟩
            refine AS_at 25 (by decide +kernel) ?_; refine takeA ?_
            refine AS_at 26 (by decide +kernel) ?_; refine takeA ?_
            refine AS_done (by decide +kernel) ?_
            repeat (first | refine stepA ?_ | intro _)
            have et : opsB (l.take k) ++ [byteOf x.num] ++ two x.delta ++ [byteOf x.flags] = opsB (l.take (k + 1)) := by rw [take_next' hx, opsB_snoc]; simp [opB, twos]
            rw [et]
            refine ⟨rfl, k + 1, ⟨by omega, fun j y hj hy => ?_⟩, by omega, sublA, subA⟩
            by_cases hjk : j = k
            · subst hjk; rw [hx] at hy; cases hy; exact ⟨hd, by omega⟩
            · exact hbef j y (by omega) hy
          · skip
            refine stepA ?_
            intro gc
            refine L_nil ?_; refine ⟨rfl, (by first | exact KeepsH.brk (by decide +kernel) | exact KeepsH.sub subA), ?_⟩
            refine AS_two 15 24 rfl (by decide +kernel) rfl rfl ?_ ?_
            · skip
              refine callA ?_; refine ⟨_, _, rtwo_spec x.delta, _, cutA, ?_⟩
              rintro v H' ⟨rfl, rfl⟩
              simp only [List.cons_append, List.nil_append]
              refine L_nil ?_; refine ⟨rfl, (by first | exact KeepsH.brk (by decide +kernel) | exact KeepsH.sub subA), ?_⟩
              refine AS_at 16 (by decide +kernel) ?_; refine takeA ?_
              refine AS_one 24 rfl (by decide +kernel) rfl ?_
              (first | (apply L_P; (· exact rfl); (· exact rfl)) | (apply QL_P; (· exact rfl))); (· (apply P_bytesStr; (· exact evA); (· exact pullA); (· exact (show _ = bts [byteOf x.flags] by rw [e2]; rfl)); (· exact rfl)))
              refine L_nil ?_; refine ⟨rfl, (by first | exact KeepsH.brk (by decide +kernel) | exact KeepsH.sub subA), ?_⟩
              refine AS_at 25 (by decide +kernel) ?_; refine takeA ?_
              refine AS_at 26 (by decide +kernel) ?_; refine takeA ?_
              refine AS_done (by decide +kernel) ?_
              repeat (first | refine stepA ?_ | intro _)
              have et : opsB (l.take k) ++ [byteOf x.num] ++ two x.delta ++ [byteOf x.flags] = opsB (l.take (k + 1)) := by rw [take_next' hx, opsB_snoc]; simp [opB, twos]
              rw [et]
              refine ⟨rfl, k + 1, ⟨by omega, fun j y hj hy => ?_⟩, by omega, sublA, subA⟩
              by_cases hjk : j = k
              · subst hjk; rw [hx] at hy; cases hy; exact ⟨hd, by omega⟩
              · exact hbef j y (by omega) hy
            · skip
              (first | (apply L_P; (· exact rfl); (· exact rfl)) | (apply QL_P; (· exact rfl))); (· (apply P_bytesStr; (· exact evA); (· exact pullA); (· exact (show _ = bts [byteOf x.flags] by rw [e2]; rfl)); (· exact rfl)))
              refine L_nil ?_; refine ⟨rfl, (by first | exact KeepsH.brk (by decide +kernel) | exact KeepsH.sub subA), ?_⟩
              refine AS_one 15 rfl (by decide +kernel) rfl ?_
              refine callA ?_; refine ⟨_, _, rtwo_spec x.delta, _, cutA, ?_⟩
              rintro v H' ⟨rfl, rfl⟩
              simp only [List.cons_append, List.nil_append]
              refine L_nil ?_; refine ⟨rfl, (by first | exact KeepsH.brk (by decide +kernel) | exact KeepsH.sub subA), ?_⟩
              refine AS_at 16 (by decide +kernel) ?_; refine takeA ?_
              refine AS_at 25 (by decide +kernel) ?_; refine takeA ?_
              refine AS_at 26 (by decide +kernel) ?_; refine takeA ?_
              refine AS_done (by decide +kernel) ?_
              repeat (first | refine stepA ?_ | intro _)
              have et : opsB (l.take k) ++ [byteOf x.num] ++ two x.delta ++ [byteOf x.flags] = opsB (l.take (k + 1)) := by rw [take_next' hx, opsB_snoc]; simp [opB, twos]
              rw [et]
              refine ⟨rfl, k + 1, ⟨by omega, fun j y hj hy => ?_⟩, by omega, sublA, subA⟩
              by_cases hjk : j = k
              · subst hjk; rw [hx] at hy; cases hy; exact ⟨hd, by omega⟩
              · exact hbef j y (by omega) hy
        · skip
          refine callA ?_; refine ⟨_, _, rtwo_spec x.delta, _, cutA, ?_⟩
          rintro v H' ⟨rfl, rfl⟩
          simp only [List.cons_append, List.nil_append]
          refine L_nil ?_; refine ⟨rfl, (by first | exact KeepsH.brk (by decide +kernel) | exact KeepsH.sub subA), ?_⟩
          refine AS_two 8 23 rfl (by decide +kernel) rfl rfl ?_ ?_
          · skip
            (first | (apply L_P; (· exact rfl); (· exact rfl)) | (apply QL_P; (· exact rfl))); (· (apply P_bytesStr; (· exact evA); (· exact pullA); (· exact (show _ = bts [byteOf x.num] by rw [e1]; rfl)); (· exact rfl)))
            refine L_nil ?_; refine ⟨rfl, (by first | exact KeepsH.brk (by decide +kernel) | exact KeepsH.sub subA), ?_⟩
            refine AS_at 9 (by decide +kernel) ?_; refine takeA ?_
            refine AS_at 16 (by decide +kernel) ?_; refine takeA ?_
            refine AS_one 23 rfl (by decide +kernel) rfl ?_
            refine stepA ?_
            intro gc
            refine L_nil ?_; refine ⟨rfl, (by first | exact KeepsH.brk (by decide +kernel) | exact KeepsH.sub subA), ?_⟩
            refine AS_one 24 rfl (by decide +kernel) rfl ?_
            (first | (apply L_P; (· exact rfl); (· exact rfl)) | (apply QL_P; (· exact rfl))); (· (apply P_bytesStr; (· exact evA); (· exact pullA); (· exact (show _ = bts [byteOf x.flags] by rw [e2]; rfl)); (· exact rfl)))
            refine L_nil ?_; refine ⟨rfl, (by first | exact KeepsH.brk (by decide +kernel) | exact KeepsH.sub subA), ?_⟩
            refine AS_at 25 (by decide +kernel) ?_; refine takeA ?_
            refine AS_at 26 (by decide +kernel) ?_; refine takeA ?_
            refine AS_done (by decide +kernel) ?_
            repeat (first | refine stepA ?_ | intro _)
            have et : opsB (l.take k) ++ [byteOf x.num] ++ two x.delta ++ [byteOf x.flags] = opsB (l.take (k + 1)) := by rw [take_next' hx, opsB_snoc]; simp [opB, twos]
            rw [et]
            refine ⟨rfl, k + 1, ⟨by omega, fun j y hj hy => ?_⟩, by omega, sublA, subA⟩
            by_cases hjk : j = k
            · subst hjk; rw [hx] at hy; cases hy; exact ⟨hd, by omega⟩
            · exact hbef j y (by omega) hy
          · skip
            refine stepA ?_
            intro gc
            refine L_nil ?_; refine ⟨rfl, (by first | exact KeepsH.brk (by decide +kernel) | exact KeepsH.sub subA), ?_⟩
            refine AS_two 8 24 rfl (by decide +kernel) rfl rfl ?_ ?_
            · skip
              (first | (apply L_P; (· exact rfl); (· exact rfl)) | (apply QL_P; (· exact rfl))); (· (apply P_bytesStr; (· exact evA); (· exact pullA); (· exact (show _ = bts [byteOf x.num] by rw [e1]; rfl)); (· exact rfl)))
              refine L_nil ?_; refine ⟨rfl, (by first | exact KeepsH.brk (by decide +kernel) | exact KeepsH.sub subA), ?_⟩
              refine AS_at 9 (by decide +kernel) ?_; refine takeA ?_
              refine AS_at 16 (by decide +kernel) ?_; refine takeA ?_
              refine AS_one 24 rfl (by decide +kernel) rfl ?_
              (first | (apply L_P; (· exact rfl); (· exact rfl)) | (apply QL_P; (· exact rfl))); (· (apply P_bytesStr; (· exact evA); (· exact pullA); (· exact (show _ = bts [byteOf x.flags] by rw [e2]; rfl)); (· exact rfl)))
              refine L_nil ?_; refine ⟨rfl, (by first | exact KeepsH.brk (by decide +kernel) | exact KeepsH.sub subA), ?_⟩
              refine AS_at 25 (by decide +kernel) ?_; refine takeA ?_
              refine AS_at 26 (by decide +kernel) ?_; refine takeA ?_
              refine AS_done (by decide +kernel) ?_
              repeat (first | refine stepA ?_ | intro _)
              have et : opsB (l.take k) ++ [byteOf x.num] ++ two x.delta ++ [byteOf x.flags] = opsB (l.take (k + 1)) := by rw [take_next' hx, opsB_snoc]; simp [opB, twos]
              rw [et]
              refine ⟨rfl, k + 1, ⟨by omega, fun j y hj hy => ?_⟩, by omega, sublA, subA⟩
              by_cases hjk : j = k
              · subst hjk; rw [hx] at hy; cases hy; exact ⟨hd, by omega⟩
              · exact hbef j y (by omega) hy
            · skip
              (first | (apply L_P; (· exact rfl); (· exact rfl)) | (apply QL_P; (· exact rfl))); (· (apply P_bytesStr; (· exact evA); (· exact pullA); (· exact (show _ = bts [byteOf x.flags] by rw [e2]; rfl)); (· exact rfl)))
              refine L_nil ?_; refine ⟨rfl, (by first | exact KeepsH.brk (by decide +kernel) | exact KeepsH.sub subA), ?_⟩
              refine AS_one 8 rfl (by decide +kernel) rfl ?_
              (first | (apply L_P; (· exact rfl); (· exact rfl)) | (apply QL_P; (· exact rfl))); (· (apply P_bytesStr; (· exact evA); (· exact pullA); (· exact (show _ = bts [byteOf x.num] by rw [e1]; rfl)); (· exact rfl)))
              refine L_nil ?_; refine ⟨rfl, (by first | exact KeepsH.brk (by decide +kernel) | exact KeepsH.sub subA), ?_⟩
              refine AS_at 9 (by decide +kernel) ?_; refine takeA ?_
              refine AS_at 16 (by decide +kernel) ?_; refine takeA ?_
              refine AS_at 25 (by decide +kernel) ?_; refine takeA ?_
              refine AS_at 26 (by decide +kernel) ?_; refine takeA ?_
              refine AS_done (by decide +kernel) ?_
              repeat (first | refine stepA ?_ | intro _)
              have et : opsB (l.take k) ++ [byteOf x.num] ++ two x.delta ++ [byteOf x.flags] = opsB (l.take (k + 1)) := by rw [take_next' hx, opsB_snoc]; simp [opB, twos]
              rw [et]
              refine ⟨rfl, k + 1, ⟨by omega, fun j y hj hy => ?_⟩, by omega, sublA, subA⟩
              by_cases hjk : j = k
              · subst hjk; rw [hx] at hy; cases hy; exact ⟨hd, by omega⟩
              · exact hbef j y (by omega) hy
        · skip
          refine stepA ?_
          intro gc
          refine L_nil ?_; refine ⟨rfl, (by first | exact KeepsH.brk (by decide +kernel) | exact KeepsH.sub subA), ?_⟩
          refine AS_three 8 15 24 rfl (by decide +kernel) rfl rfl rfl ?_ ?_ ?_
          · skip
            (first | (apply L_P; (· exact rfl); (· exact rfl)) | (apply QL_P; (· exact rfl))); (· (apply P_bytesStr; (· exact evA); (· exact pullA); (· exact (show _ = bts [byteOf x.num] by rw [e1]; rfl)); (· exact rfl)))
            refine L_nil ?_; refine ⟨rfl, (by first | exact KeepsH.brk (by decide +kernel) | exact KeepsH.sub subA), ?_⟩
            refine AS_at 9 (by decide +kernel) ?_; refine takeA ?_
            refine AS_two 15 24 rfl (by decide +kernel) rfl rfl ?_ ?_
            · skip
              refine callA ?_; refine ⟨_, _, rtwo_spec x.delta, _, cutA, ?_⟩
              rintro v H' ⟨rfl, rfl⟩
              simp only [List.cons_append, List.nil_append]
              refine L_nil ?_; refine ⟨rfl, (by first | exact KeepsH.brk (by decide +kernel) | exact KeepsH.sub subA), ?_⟩
              refine AS_at 16 (by decide +kernel) ?_; refine takeA ?_
              refine AS_one 24 rfl (by decide +kernel) rfl ?_
              (first | (apply L_P; (· exact rfl); (· exact rfl)) | (apply QL_P; (· exact rfl))); (· (apply P_bytesStr; (· exact evA); (· exact pullA); (· exact (show _ = bts [byteOf x.flags] by rw [e2]; rfl)); (· exact rfl)))
              refine L_nil ?_; refine ⟨rfl, (by first | exact KeepsH.brk (by decide +kernel) | exact KeepsH.sub subA), ?_⟩
              refine AS_at 25 (by decide +kernel) ?_; refine takeA ?_
              refine AS_at 26 (by decide +kernel) ?_; refine takeA ?_
              refine AS_done (by decide +kernel) ?_
              repeat (first | refine stepA ?_ | intro _)
              have et : opsB (l.take k) ++ [byteOf x.num] ++ two x.delta ++ [byteOf x.flags] = opsB (l.take (k + 1)) := by rw [take_next' hx, opsB_snoc]; simp [opB, twos]
              rw [et]
              refine ⟨rfl, k + 1, ⟨by omega, fun j y hj hy => ?_⟩, by omega, sublA, subA⟩
              by_cases hjk : j = k
              · subst hjk; rw [hx] at hy; cases hy; exact ⟨hd, by omega⟩
              · exact hbef j y (by omega) hy
            · skip
              (first | (apply L_P; (· exact rfl); (· exact rfl)) | (apply QL_P; (· exact rfl))); (· (apply P_bytesStr; (· exact evA); (· exact pullA); (· exact (show _ = bts [byteOf x.flags] by rw [e2]; rfl)); (· exact rfl)))
              refine L_nil ?_; refine ⟨rfl, (by first | exact KeepsH.brk (by decide +kernel) | exact KeepsH.sub subA), ?_⟩
              refine AS_one 15 rfl (by decide +kernel) rfl ?_
              refine callA ?_; refine ⟨_, _, rtwo_spec x.delta, _, cutA, ?_⟩
              rintro v H' ⟨rfl, rfl⟩
              simp only [List.cons_append, List.nil_append]
              refine L_nil ?_; refine ⟨rfl, (by first | exact KeepsH.brk (by decide +kernel) | exact KeepsH.sub subA), ?_⟩
              refine AS_at 16 (by decide +kernel) ?_; refine takeA ?_
              refine AS_at 25 (by decide +kernel) ?_; refine takeA ?_
              refine AS_at 26 (by decide +kernel) ?_; refine takeA ?_
              refine AS_done (by decide +kernel) ?_
              repeat (first | refine stepA ?_ | intro _)
              have et : opsB (l.take k) ++ [byteOf x.num] ++ two x.delta ++ [byteOf x.flags] = opsB (l.take (k + 1)) := by rw [take_next' hx, opsB_snoc]; simp [opB, twos]
              rw [et]
              refine ⟨rfl, k + 1, ⟨by omega, fun j y hj hy => ?_⟩, by omega, sublA, subA⟩
              by_cases hjk : j = k
              · subst hjk; rw [hx] at hy; cases hy; exact ⟨hd, by omega⟩
              · exact hbef j y (by omega) hy
          · skip
            refine callA ?_; refine ⟨_, _, rtwo_spec x.delta, _, cutA, ?_⟩
            rintro v H' ⟨rfl, rfl⟩
            simp only [List.cons_append, List.nil_append]
            refine L_nil ?_; refine ⟨rfl, (by first | exact KeepsH.brk (by decide +kernel) | exact KeepsH.sub subA), ?_⟩
            refine AS_two 8 24 rfl (by decide +kernel) rfl rfl ?_ ?_
            · skip
              (first | (apply L_P; (· exact rfl); (· exact rfl)) | (apply QL_P; (· exact rfl))); (· (apply P_bytesStr; (· exact evA); (· exact pullA); (· exact (show _ = bts [byteOf x.num] by rw [e1]; rfl)); (· exact rfl)))
              refine L_nil ?_; refine ⟨rfl, (by first | exact KeepsH.brk (by decide +kernel) | exact KeepsH.sub subA), ?_⟩
              refine AS_at 9 (by decide +kernel) ?_; refine takeA ?_
              refine AS_at 16 (by decide +kernel) ?_; refine takeA ?_
              refine AS_one 24 rfl (by decide +kernel) rfl ?_
              (first | (apply L_P; (· exact rfl); (· exact rfl)) | (apply QL_P; (· exact rfl))); (· (apply P_bytesStr; (· exact evA); (· exact pullA); (· exact (show _ = bts [byteOf x.flags] by rw [e2]; rfl)); (· exact rfl)))
              refine L_nil ?_; refine ⟨rfl, (by first | exact KeepsH.brk (by decide +kernel) | exact KeepsH.sub subA), ?_⟩
              refine AS_at 25 (by decide +kernel) ?_; refine takeA ?_
              refine AS_at 26 (by decide +kernel) ?_; refine takeA ?_
              refine AS_done (by decide +kernel) ?_
              repeat (first | refine stepA ?_ | intro _)
              have et : opsB (l.take k) ++ [byteOf x.num] ++ two x.delta ++ [byteOf x.flags] = opsB (l.take (k + 1)) := by rw [take_next' hx, opsB_snoc]; simp [opB, twos]
              rw [et]
              refine ⟨rfl, k + 1, ⟨by omega, fun j y hj hy => ?_⟩, by omega, sublA, subA⟩
              by_cases hjk : j = k
              · subst hjk; rw [hx] at hy; cases hy; exact ⟨hd, by omega⟩
              · exact hbef j y (by omega) hy
            · skip
              (first | (apply L_P; (· exact rfl); (· exact rfl)) | (apply QL_P; (· exact rfl))); (· (apply P_bytesStr; (· exact evA); (· exact pullA); (· exact (show _ = bts [byteOf x.flags] by rw [e2]; rfl)); (· exact rfl)))
              refine L_nil ?_; refine ⟨rfl, (by first | exact KeepsH.brk (by decide +kernel) | exact KeepsH.sub subA), ?_⟩
              refine AS_one 8 rfl (by decide +kernel) rfl ?_
              (first | (apply L_P; (· exact rfl); (· exact rfl)) | (apply QL_P; (· exact rfl))); (· (apply P_bytesStr; (· exact evA); (· exact pullA); (· exact (show _ = bts [byteOf x.num] by rw [e1]; rfl)); (· exact rfl)))
              refine L_nil ?_; refine ⟨rfl, (by first | exact KeepsH.brk (by decide +kernel) | exact KeepsH.sub subA), ?_⟩
              refine AS_at 9 (by decide +kernel) ?_; refine takeA ?_
              refine AS_at 16 (by decide +kernel) ?_; refine takeA ?_
              refine AS_at 25 (by decide +kernel) ?_; refine takeA ?_
              refine AS_at 26 (by decide +kernel) ?_; refine takeA ?_
              refine AS_done (by decide +kernel) ?_
              repeat (first | refine stepA ?_ | intro _)
              have et : opsB (l.take k) ++ [byteOf x.num] ++ two x.delta ++ [byteOf x.flags] = opsB (l.take (k + 1)) := by rw [take_next' hx, opsB_snoc]; simp [opB, twos]
              rw [et]
              refine ⟨rfl, k + 1, ⟨by omega, fun j y hj hy => ?_⟩, by omega, sublA, subA⟩
              by_cases hjk : j = k
              · subst hjk; rw [hx] at hy; cases hy; exact ⟨hd, by omega⟩
              · exact hbef j y (by omega) hy
          · skip
            (first | (apply L_P; (· exact rfl); (· exact rfl)) | (apply QL_P; (· exact rfl))); (· (apply P_bytesStr; (· exact evA); (· exact pullA); (· exact (show _ = bts [byteOf x.flags] by rw [e2]; rfl)); (· exact rfl)))
            refine L_nil ?_; refine ⟨rfl, (by first | exact KeepsH.brk (by decide +kernel) | exact KeepsH.sub subA), ?_⟩
            refine AS_two 8 15 rfl (by decide +kernel) rfl rfl ?_ ?_
            · skip
              (first | (apply L_P; (· exact rfl); (· exact rfl)) | (apply QL_P; (· exact rfl))); (· (apply P_bytesStr; (· exact evA); (· exact pullA); (· exact (show _ = bts [byteOf x.num] by rw [e1]; rfl)); (· exact rfl)))
              refine L_nil ?_; refine ⟨rfl, (by first | exact KeepsH.brk (by decide +kernel) | exact KeepsH.sub subA), ?_⟩
              refine AS_at 9 (by decide +kernel) ?_; refine takeA ?_
              refine AS_one 15 rfl (by decide +kernel) rfl ?_
              refine callA ?_; refine ⟨_, _, rtwo_spec x.delta, _, cutA, ?_⟩
              rintro v H' ⟨rfl, rfl⟩
              simp only [List.cons_append, List.nil_append]
              refine L_nil ?_; refine ⟨rfl, (by first | exact KeepsH.brk (by decide +kernel) | exact KeepsH.sub subA), ?_⟩
              refine AS_at 16 (by decide +kernel) ?_; refine takeA ?_
              refine AS_at 25 (by decide +kernel) ?_; refine takeA ?_
              refine AS_at 26 (by decide +kernel) ?_; refine takeA ?_
              refine AS_done (by decide +kernel) ?_
              repeat (first | refine stepA ?_ | intro _)
              have et : opsB (l.take k) ++ [byteOf x.num] ++ two x.delta ++ [byteOf x.flags] = opsB (l.take (k + 1)) := by rw [take_next' hx, opsB_snoc]; simp [opB, twos]
              rw [et]
              refine ⟨rfl, k + 1, ⟨by omega, fun j y hj hy => ?_⟩, by omega, sublA, subA⟩
              by_cases hjk : j = k
              · subst hjk; rw [hx] at hy; cases hy; exact ⟨hd, by omega⟩
              · exact hbef j y (by omega) hy
            · skip
              refine callA ?_; refine ⟨_, _, rtwo_spec x.delta, _, cutA, ?_⟩
              rintro v H' ⟨rfl, rfl⟩
              simp only [List.cons_append, List.nil_append]
              refine L_nil ?_; refine ⟨rfl, (by first | exact KeepsH.brk (by decide +kernel) | exact KeepsH.sub subA), ?_⟩
              refine AS_one 8 rfl (by decide +kernel) rfl ?_
              (first | (apply L_P; (· exact rfl); (· exact rfl)) | (apply QL_P; (· exact rfl))); (· (apply P_bytesStr; (· exact evA); (· exact pullA); (· exact (show _ = bts [byteOf x.num] by rw [e1]; rfl)); (· exact rfl)))
              refine L_nil ?_; refine ⟨rfl, (by first | exact KeepsH.brk (by decide +kernel) | exact KeepsH.sub subA), ?_⟩
              refine AS_at 9 (by decide +kernel) ?_; refine takeA ?_
              refine AS_at 16 (by decide +kernel) ?_; refine takeA ?_
              refine AS_at 25 (by decide +kernel) ?_; refine takeA ?_
              refine AS_at 26 (by decide +kernel) ?_; refine takeA ?_
              refine AS_done (by decide +kernel) ?_
              repeat (first | refine stepA ?_ | intro _)
              have et : opsB (l.take k) ++ [byteOf x.num] ++ two x.delta ++ [byteOf x.flags] = opsB (l.take (k + 1)) := by rw [take_next' hx, opsB_snoc]; simp [opB, twos]
              rw [et]
              refine ⟨rfl, k + 1, ⟨by omega, fun j y hj hy => ?_⟩, by omega, sublA, subA⟩
              by_cases hjk : j = k
              · subst hjk; rw [hx] at hy; cases hy; exact ⟨hd, by omega⟩
              · exact hbef j y (by omega) hy
      · skip
        refine callA ?_; refine ⟨_, _, rtwo_spec x.delta, _, cutA, ?_⟩
        rintro v H' ⟨rfl, rfl⟩
        simp only [List.cons_append, List.nil_append]
        refine L_nil ?_; refine ⟨rfl, (by first | exact KeepsH.brk (by decide +kernel) | exact KeepsH.sub subA), ?_⟩
        refine AS_two 7 23 rfl (by decide +kernel) rfl rfl ?_ ?_
        · skip
          refine stepA ?_
          intro ga
          refine L_nil ?_; refine ⟨rfl, (by first | exact KeepsH.brk (by decide +kernel) | exact KeepsH.sub subA), ?_⟩
          refine AS_two 8 23 rfl (by decide +kernel) rfl rfl ?_ ?_
          · skip
            (first | (apply L_P; (· exact rfl); (· exact rfl)) | (apply QL_P; (· exact rfl))); (· (apply P_bytesStr; (· exact evA); (· exact pullA); (· exact (show _ = bts [byteOf x.num] by rw [e1]; rfl)); (· exact rfl)))
            refine L_nil ?_; refine ⟨rfl, (by first | exact KeepsH.brk (by decide +kernel) | exact KeepsH.sub subA), ?_⟩
            refine AS_at 9 (by decide +kernel) ?_; refine takeA ?_
            refine AS_at 16 (by decide +kernel) ?_; refine takeA ?_
            refine AS_one 23 rfl (by decide +kernel) rfl ?_
            refine stepA ?_
            intro gc
            refine L_nil ?_; refine ⟨rfl, (by first | exact KeepsH.brk (by decide +kernel) | exact KeepsH.sub subA), ?_⟩
            refine AS_one 24 rfl (by decide +kernel) rfl ?_
            (first | (apply L_P; (· exact rfl); (· exact rfl)) | (apply QL_P; (· exact rfl))); (· (apply P_bytesStr; (· exact evA); (· exact pullA); (· exact (show _ = bts [byteOf x.flags] by rw [e2]; rfl)); (· exact rfl)))
            refine L_nil ?_; refine ⟨rfl, (by first | exact KeepsH.brk (by decide +kernel) | exact KeepsH.sub subA), ?_⟩
            refine AS_at 25 (by decide +kernel) ?_; refine takeA ?_
            refine AS_at 26 (by decide +kernel) ?_; refine takeA ?_
            refine AS_done (by decide +kernel) ?_
            repeat (first | refine stepA ?_ | intro _)
            have et : opsB (l.take k) ++ [byteOf x.num] ++ two x.delta ++ [byteOf x.flags] = opsB (l.take (k + 1)) := by rw [take_next' hx, opsB_snoc]; simp [opB, twos]
            rw [et]
            refine ⟨rfl, k + 1, ⟨by omega, fun j y hj hy => ?_⟩, by omega, sublA, subA⟩
            by_cases hjk : j = k
            · subst hjk; rw [hx] at hy; cases hy; exact ⟨hd, by omega⟩
            · exact hbef j y (by omega) hy
          · skip
            refine stepA ?_
            intro gc
            refine L_nil ?_; refine ⟨rfl, (by first | exact KeepsH.brk (by decide +kernel) | exact KeepsH.sub subA), ?_⟩
            refine AS_two 8 24 rfl (by decide +kernel) rfl rfl ?_ ?_
            · skip
              (first | (apply L_P; (· exact rfl); (· exact rfl)) | (apply QL_P; (· exact rfl))); (· (apply P_bytesStr; (· exact evA); (· exact pullA); (· exact (show _ = bts [byteOf x.num] by rw [e1]; rfl)); (· exact rfl)))
              refine L_nil ?_; refine ⟨rfl, (by first | exact KeepsH.brk (by decide +kernel) | exact KeepsH.sub subA), ?_⟩
              refine AS_at 9 (by decide +kernel) ?_; refine takeA ?_
              refine AS_at 16 (by decide +kernel) ?_; refine takeA ?_
              refine AS_one 24 rfl (by decide +kernel) rfl ?_
              (first | (apply L_P; (· exact rfl); (· exact rfl)) | (apply QL_P; (· exact rfl))); (· (apply P_bytesStr; (· exact evA); (· exact pullA); (· exact (show _ = bts [byteOf x.flags] by rw [e2]; rfl)); (· exact rfl)))
              refine L_nil ?_; refine ⟨rfl, (by first | exact KeepsH.brk (by decide +kernel) | exact KeepsH.sub subA), ?_⟩
              refine AS_at 25 (by decide +kernel) ?_; refine takeA ?_
              refine AS_at 26 (by decide +kernel) ?_; refine takeA ?_
              refine AS_done (by decide +kernel) ?_
              repeat (first | refine stepA ?_ | intro _)
              have et : opsB (l.take k) ++ [byteOf x.num] ++ two x.delta ++ [byteOf x.flags] = opsB (l.take (k + 1)) := by rw [take_next' hx, opsB_snoc]; simp [opB, twos]
              rw [et]
              refine ⟨rfl, k + 1, ⟨by omega, fun j y hj hy => ?_⟩, by omega, sublA, subA⟩
              by_cases hjk : j = k
              · subst hjk; rw [hx] at hy; cases hy; exact ⟨hd, by omega⟩
              · exact hbef j y (by omega) hy
            · skip
              (first | (apply L_P; (· exact rfl); (· exact rfl)) | (apply QL_P; (· exact rfl))); (· (apply P_bytesStr; (· exact evA); (· exact pullA); (· exact (show _ = bts [byteOf x.flags] by rw [e2]; rfl)); (· exact rfl)))
              refine L_nil ?_; refine ⟨rfl, (by first | exact KeepsH.brk (by decide +kernel) | exact KeepsH.sub subA), ?_⟩
              refine AS_one 8 rfl (by decide +kernel) rfl ?_
              (first | (apply L_P; (· exact rfl); (· exact rfl)) | (apply QL_P; (· exact rfl))); (· (apply P_bytesStr; (· exact evA); (· exact pullA); (· exact (show _ = bts [byteOf x.num] by rw [e1]; rfl)); (· exact rfl)))
              refine L_nil ?_; refine ⟨rfl, (by first | exact KeepsH.brk (by decide +kernel) | exact KeepsH.sub subA), ?_⟩
              refine AS_at 9 (by decide +kernel) ?_; refine takeA ?_
              refine AS_at 16 (by decide +kernel) ?_; refine takeA ?_
              refine AS_at 25 (by decide +kernel) ?_; refine takeA ?_
              refine AS_at 26 (by decide +kernel) ?_; refine takeA ?_
              refine AS_done (by decide +kernel) ?_
              repeat (first | refine stepA ?_ | intro _)
              have et : opsB (l.take k) ++ [byteOf x.num] ++ two x.delta ++ [byteOf x.flags] = opsB (l.take (k + 1)) := by rw [take_next' hx, opsB_snoc]; simp [opB, twos]
              rw [et]
              refine ⟨rfl, k + 1, ⟨by omega, fun j y hj hy => ?_⟩, by omega, sublA, subA⟩
              by_cases hjk : j = k
              · subst hjk; rw [hx] at hy; cases hy; exact ⟨hd, by omega⟩
              · exact hbef j y (by omega) hy
        · skip
          refine stepA ?_
          intro gc
          refine L_nil ?_; refine ⟨rfl, (by first | exact KeepsH.brk (by decide +kernel) | exact KeepsH.sub subA), ?_⟩
          refine AS_two 7 24 rfl (by decide +kernel) rfl rfl ?_ ?_
          · skip
            refine stepA ?_
            intro ga
            refine L_nil ?_; refine ⟨rfl, (by first | exact KeepsH.brk (by decide +kernel) | exact KeepsH.sub subA), ?_⟩
            refine AS_two 8 24 rfl (by decide +kernel) rfl rfl ?_ ?_
            · skip
              (first | (apply L_P; (· exact rfl); (· exact rfl)) | (apply QL_P; (· exact rfl))); (· (apply P_bytesStr; (· exact evA); (· exact pullA); (· exact (show _ = bts [byteOf x.num] by rw [e1]; rfl)); (· exact rfl)))
              refine L_nil ?_; refine ⟨rfl, (by first | exact KeepsH.brk (by decide +kernel) | exact KeepsH.sub subA), ?_⟩
              refine AS_at 9 (by decide +kernel) ?_; refine takeA ?_
              refine AS_at 16 (by decide +kernel) ?_; refine takeA ?_
              refine AS_one 24 rfl (by decide +kernel) rfl ?_
              (first | (apply L_P; (· exact rfl); (· exact rfl)) | (apply QL_P; (· exact rfl))); (· (apply P_bytesStr; (· exact evA); (· exact pullA); (· exact (show _ = bts [byteOf x.flags] by rw [e2]; rfl)); (· exact rfl)))
              refine L_nil ?_; refine ⟨rfl, (by first | exact KeepsH.brk (by decide +kernel) | exact KeepsH.sub subA), ?_⟩
              refine AS_at 25 (by decide +kernel) ?_; refine takeA ?_
              refine AS_at 26 (by decide +kernel) ?_; refine takeA ?_
              refine AS_done (by decide +kernel) ?_
              repeat (first | refine stepA ?_ | intro _)
              have et : opsB (l.take k) ++ [byteOf x.num] ++ two x.delta ++ [byteOf x.flags] = opsB (l.take (k + 1)) := by rw [take_next' hx, opsB_snoc]; simp [opB, twos]
              rw [et]
              refine ⟨rfl, k + 1, ⟨by omega, fun j y hj hy => ?_⟩, by omega, sublA, subA⟩
              by_cases hjk : j = k
              · subst hjk; rw [hx] at hy; cases hy; exact ⟨hd, by omega⟩
              · exact hbef j y (by omega) hy
            · skip
              (first | (apply L_P; (· exact rfl); (· exact rfl)) | (apply QL_P; (· exact rfl))); (· (apply P_bytesStr; (· exact evA); (· exact pullA); (· exact (show _ = bts [byteOf x.flags] by rw [e2]; rfl)); (· exact rfl)))
              refine L_nil ?_; refine ⟨rfl, (by first | exact KeepsH.brk (by decide +kernel) | exact KeepsH.sub subA), ?_⟩
              refine AS_one 8 rfl (by decide +kernel) rfl ?_
              (first | (apply L_P; (· exact rfl); (· exact rfl)) | (apply QL_P; (· exact rfl))); (· (apply P_bytesStr; (· exact evA); (· exact pullA); (· exact (show _ = bts [byteOf x.num] by rw [e1]; rfl)); (· exact rfl)))
              refine L_nil ?_; refine ⟨rfl, (by first | exact KeepsH.brk (by decide +kernel) | exact KeepsH.sub subA), ?_⟩
              refine AS_at 9 (by decide +kernel) ?_; refine takeA ?_
              refine AS_at 16 (by decide +kernel) ?_; refine takeA ?_
              refine AS_at 25 (by decide +kernel) ?_; refine takeA ?_
              refine AS_at 26 (by decide +kernel) ?_; refine takeA ?_
              refine AS_done (by decide +kernel) ?_
              repeat (first | refine stepA ?_ | intro _)
              have et : opsB (l.take k) ++ [byteOf x.num] ++ two x.delta ++ [byteOf x.flags] = opsB (l.take (k + 1)) := by rw [take_next' hx, opsB_snoc]; simp [opB, twos]
              rw [et]
              refine ⟨rfl, k + 1, ⟨by omega, fun j y hj hy => ?_⟩, by omega, sublA, subA⟩
              by_cases hjk : j = k
              · subst hjk; rw [hx] at hy; cases hy; exact ⟨hd, by omega⟩
              · exact hbef j y (by omega) hy
          · skip
            (first | (apply L_P; (· exact rfl); (· exact rfl)) | (apply QL_P; (· exact rfl))); (· (apply P_bytesStr; (· exact evA); (· exact pullA); (· exact (show _ = bts [byteOf x.flags] by rw [e2]; rfl)); (· exact rfl)))
            refine L_nil ?_; refine ⟨rfl, (by first | exact KeepsH.brk (by decide +kernel) | exact KeepsH.sub subA), ?_⟩
            refine AS_one 7 rfl (by decide +kernel) rfl ?_
            refine stepA ?_
            intro ga
            refine L_nil ?_; refine ⟨rfl, (by first | exact KeepsH.brk (by decide +kernel) | exact KeepsH.sub subA), ?_⟩
            refine AS_one 8 rfl (by decide +kernel) rfl ?_
            (first | (apply L_P; (· exact rfl); (· exact rfl)) | (apply QL_P; (· exact rfl))); (· (apply P_bytesStr; (· exact evA); (· exact pullA); (· exact (show _ = bts [byteOf x.num] by rw [e1]; rfl)); (· exact rfl)))
            refine L_nil ?_; refine ⟨rfl, (by first | exact KeepsH.brk (by decide +kernel) | exact KeepsH.sub subA), ?_⟩
            refine AS_at 9 (by decide +kernel) ?_; refine takeA ?_
            refine AS_at 16 (by decide +kernel) ?_; refine takeA ?_
            refine AS_at 25 (by decide +kernel) ?_; refine takeA ?_
            refine AS_at 26 (by decide +kernel) ?_; refine takeA ?_
            refine AS_done (by decide +kernel) ?_
            repeat (first | refine stepA ?_ | intro _)
            have et : opsB (l.take k) ++ [byteOf x.num] ++ two x.delta ++ [byteOf x.flags] = opsB (l.take (k + 1)) := by rw [take_next' hx, opsB_snoc]; simp [opB, twos]
            rw [et]
            refine ⟨rfl, k + 1, ⟨by omega, fun j y hj hy => ?_⟩, by omega, sublA, subA⟩
            by_cases hjk : j = k
            · subst hjk; rw [hx] at hy; cases hy; exact ⟨hd, by omega⟩
            · exact hbef j y (by omega) hy
      · skip
        refine stepA ?_
        intro gc
        refine L_nil ?_; refine ⟨rfl, (by first | exact KeepsH.brk (by decide +kernel) | exact KeepsH.sub subA), ?_⟩
        refine AS_three 7 15 24 rfl (by decide +kernel) rfl rfl rfl ?_ ?_ ?_
        · skip
          refine stepA ?_
          intro ga
          refine L_nil ?_; refine ⟨rfl, (by first | exact KeepsH.brk (by decide +kernel) | exact KeepsH.sub subA), ?_⟩
          refine AS_three 8 15 24 rfl (by decide +kernel) rfl rfl rfl ?_ ?_ ?_
          · skip
            (first | (apply L_P; (· exact rfl); (· exact rfl)) | (apply QL_P; (· exact rfl))); (· (apply P_bytesStr; (· exact evA); (· exact pullA); (· exact (show _ = bts [byteOf x.num] by rw [e1]; rfl)); (· exact rfl)))
            refine L_nil ?_; refine ⟨rfl, (by first | exact KeepsH.brk (by decide +kernel) | exact KeepsH.sub subA), ?_⟩
            refine AS_at 9 (by decide +kernel) ?_; refine takeA ?_
            refine AS_two 15 24 rfl (by decide +kernel) rfl rfl ?_ ?_
            · skip
              refine callA ?_; refine ⟨_, _, rtwo_spec x.delta, _, cutA, ?_⟩
              rintro v H' ⟨rfl, rfl⟩
              simp only [List.cons_append, List.nil_append]
              refine L_nil ?_; refine ⟨rfl, (by first | exact KeepsH.brk (by decide +kernel) | exact KeepsH.sub subA), ?_⟩
              refine AS_at 16 (by decide +kernel) ?_; refine takeA ?_
              refine AS_one 24 rfl (by decide +kernel) rfl ?_
              (first | (apply L_P; (· exact rfl); (· exact rfl)) | (apply QL_P; (· exact rfl))); (· (apply P_bytesStr; (· exact evA); (· exact pullA); (· exact (show _ = bts [byteOf x.flags] by rw [e2]; rfl)); (· exact rfl)))
              refine L_nil ?_; refine ⟨rfl, (by first | exact KeepsH.brk (by decide +kernel) | exact KeepsH.sub subA), ?_⟩
              refine AS_at 25 (by decide +kernel) ?_; refine takeA ?_
              refine AS_at 26 (by decide +kernel) ?_; refine takeA ?_
              refine AS_done (by decide +kernel) ?_
              repeat (first | refine stepA ?_ | intro _)
              have et : opsB (l.take k) ++ [byteOf x.num] ++ two x.delta ++ [byteOf x.flags] = opsB (l.take (k + 1)) := by rw [take_next' hx, opsB_snoc]; simp [opB, twos]
              rw [et]
              refine ⟨rfl, k + 1, ⟨by omega, fun j y hj hy => ?_⟩, by omega, sublA, subA⟩
              by_cases hjk : j = k
              · subst hjk; rw [hx] at hy; cases hy; exact ⟨hd, by omega⟩
              · exact hbef j y (by omega) hy
            · skip
              (first | (apply L_P; (· exact rfl); (· exact rfl)) | (apply QL_P; (· exact rfl))); (· (apply P_bytesStr; (· exact evA); (· exact pullA); (· exact (show _ = bts [byteOf x.flags] by rw [e2]; rfl)); (· exact rfl)))
              refine L_nil ?_; refine ⟨rfl, (by first | exact KeepsH.brk (by decide +kernel) | exact KeepsH.sub subA), ?_⟩
              refine AS_one 15 rfl (by decide +kernel) rfl ?_
              refine callA ?_; refine ⟨_, _, rtwo_spec x.delta, _, cutA, ?_⟩
              rintro v H' ⟨rfl, rfl⟩
              simp only [List.cons_append, List.nil_append]
              refine L_nil ?_; refine ⟨rfl, (by first | exact KeepsH.brk (by decide +kernel) | exact KeepsH.sub subA), ?_⟩
              refine AS_at 16 (by decide +kernel) ?_; refine takeA ?_
              refine AS_at 25 (by decide +kernel) ?_; refine takeA ?_
              refine AS_at 26 (by decide +kernel) ?_; refine takeA ?_
              refine AS_done (by decide +kernel) ?_
              repeat (first | refine stepA ?_ | intro _)
              have et : opsB (l.take k) ++ [byteOf x.num] ++ two x.delta ++ [byteOf x.flags] = opsB (l.take (k + 1)) := by rw [take_next' hx, opsB_snoc]; simp [opB, twos]
              rw [et]
              refine ⟨rfl, k + 1, ⟨by omega, fun j y hj hy => ?_⟩, by omega, sublA, subA⟩
              by_cases hjk : j = k
              · subst hjk; rw [hx] at hy; cases hy; exact ⟨hd, by omega⟩
              · exact hbef j y (by omega) hy
          · skip
            refine callA ?_; refine ⟨_, _, rtwo_spec x.delta, _, cutA, ?_⟩
            rintro v H' ⟨rfl, rfl⟩
            simp only [List.cons_append, List.nil_append]
            refine L_nil ?_; refine ⟨rfl, (by first | exact KeepsH.brk (by decide +kernel) | exact KeepsH.sub subA), ?_⟩
            refine AS_two 8 24 rfl (by decide +kernel) rfl rfl ?_ ?_
            · skip
              (first | (apply L_P; (· exact rfl); (· exact rfl)) | (apply QL_P; (· exact rfl))); (· (apply P_bytesStr; (· exact evA); (· exact pullA); (· exact (show _ = bts [byteOf x.num] by rw [e1]; rfl)); (· exact rfl)))
              refine L_nil ?_; refine ⟨rfl, (by first | exact KeepsH.brk (by decide +kernel) | exact KeepsH.sub subA), ?_⟩
              refine AS_at 9 (by decide +kernel) ?_; refine takeA ?_
              refine AS_at 16 (by decide +kernel) ?_; refine takeA ?_
              refine AS_one 24 rfl (by decide +kernel) rfl ?_
              (first | (apply L_P; (· exact rfl); (· exact rfl)) | (apply QL_P; (· exact rfl))); (· (apply P_bytesStr; (· exact evA); (· exact pullA); (· exact (show _ = bts [byteOf x.flags] by rw [e2]; rfl)); (· exact rfl)))
              refine L_nil ?_; refine ⟨rfl, (by first | exact KeepsH.brk (by decide +kernel) | exact KeepsH.sub subA), ?_⟩
              refine AS_at 25 (by decide +kernel) ?_; refine takeA ?_
              refine AS_at 26 (by decide +kernel) ?_; refine takeA ?_
              refine AS_done (by decide +kernel) ?_
              repeat (first | refine stepA ?_ | intro _)
              have et : opsB (l.take k) ++ [byteOf x.num] ++ two x.delta ++ [byteOf x.flags] = opsB (l.take (k + 1)) := by rw [take_next' hx, opsB_snoc]; simp [opB, twos]
              rw [et]
              refine ⟨rfl, k + 1, ⟨by omega, fun j y hj hy => ?_⟩, by omega, sublA, subA⟩
              by_cases hjk : j = k
              · subst hjk; rw [hx] at hy; cases hy; exact ⟨hd, by omega⟩
              · exact hbef j y (by omega) hy
            · skip
              (first | (apply L_P; (· exact rfl); (· exact rfl)) | (apply QL_P; (· exact rfl))); (· (apply P_bytesStr; (· exact evA); (· exact pullA); (· exact (show _ = bts [byteOf x.flags] by rw [e2]; rfl)); (· exact rfl)))
              refine L_nil ?_; refine ⟨rfl, (by first | exact KeepsH.brk (by decide +kernel) | exact KeepsH.sub subA), ?_⟩
              refine AS_one 8 rfl (by decide +kernel) rfl ?_
              (first | (apply L_P; (· exact rfl); (· exact rfl)) | (apply QL_P; (· exact rfl))); (· (apply P_bytesStr; (· exact evA); (· exact pullA); (· exact (show _ = bts [byteOf x.num] by rw [e1]; rfl)); (· exact rfl)))
              refine L_nil ?_; refine ⟨rfl, (by first | exact KeepsH.brk (by decide +kernel) | exact KeepsH.sub subA), ?_⟩
              refine AS_at 9 (by decide +kernel) ?_; refine takeA ?_
              refine AS_at 16 (by decide +kernel) ?_; refine takeA ?_
              refine AS_at 25 (by decide +kernel) ?_; refine takeA ?_
              refine AS_at 26 (by decide +kernel) ?_; refine takeA ?_
              refine AS_done (by decide +kernel) ?_
              repeat (first | refine stepA ?_ | intro _)
              have et : opsB (l.take k) ++ [byteOf x.num] ++ two x.delta ++ [byteOf x.flags] = opsB (l.take (k + 1)) := by rw [take_next' hx, opsB_snoc]; simp [opB, twos]
              rw [et]
              refine ⟨rfl, k + 1, ⟨by omega, fun j y hj hy => ?_⟩, by omega, sublA, subA⟩
              by_cases hjk : j = k
              · subst hjk; rw [hx] at hy; cases hy; exact ⟨hd, by omega⟩
              · exact hbef j y (by omega) hy
          · skip
            (first | (apply L_P; (· exact rfl); (· exact rfl)) | (apply QL_P; (· exact rfl))); (· (apply P_bytesStr; (· exact evA); (· exact pullA); (· exact (show _ = bts [byteOf x.flags] by rw [e2]; rfl)); (· exact rfl)))
            refine L_nil ?_; refine ⟨rfl, (by first | exact KeepsH.brk (by decide +kernel) | exact KeepsH.sub subA), ?_⟩
            refine AS_two 8 15 rfl (by decide +kernel) rfl rfl ?_ ?_
            · skip
              (first | (apply L_P; (· exact rfl); (· exact rfl)) | (apply QL_P; (· exact rfl))); (· (apply P_bytesStr; (· exact evA); (· exact pullA); (· exact (show _ = bts [byteOf x.num] by rw [e1]; rfl)); (· exact rfl)))
              refine L_nil ?_; refine ⟨rfl, (by first | exact KeepsH.brk (by decide +kernel) | exact KeepsH.sub subA), ?_⟩
              refine AS_at 9 (by decide +kernel) ?_; refine takeA ?_
              refine AS_one 15 rfl (by decide +kernel) rfl ?_
              refine callA ?_; refine ⟨_, _, rtwo_spec x.delta, _, cutA, ?_⟩
              rintro v H' ⟨rfl, rfl⟩
              simp only [List.cons_append, List.nil_append]
              refine L_nil ?_; refine ⟨rfl, (by first | exact KeepsH.brk (by decide +kernel) | exact KeepsH.sub subA), ?_⟩
              refine AS_at 16 (by decide +kernel) ?_; refine takeA ?_
              refine AS_at 25 (by decide +kernel) ?_; refine takeA ?_
              refine AS_at 26 (by decide +kernel) ?_; refine takeA ?_
              refine AS_done (by decide +kernel) ?_
              repeat (first | refine stepA ?_ | intro _)
              have et : opsB (l.take k) ++ [byteOf x.num] ++ two x.delta ++ [byteOf x.flags] = opsB (l.take (k + 1)) := by rw [take_next' hx, opsB_snoc]; simp [opB, twos]
              rw [et]
              refine ⟨rfl, k + 1, ⟨by omega, fun j y hj hy => ?_⟩, by omega, sublA, subA⟩
              by_cases hjk : j = k
              · subst hjk; rw [hx] at hy; cases hy; exact ⟨hd, by omega⟩
              · exact hbef j y (by omega) hy
            · skip
              refine callA ?_; refine ⟨_, _, rtwo_spec x.delta, _, cutA, ?_⟩
              rintro v H' ⟨rfl, rfl⟩
              simp only [List.cons_append, List.nil_append]
              refine L_nil ?_; refine ⟨rfl, (by first | exact KeepsH.brk (by decide +kernel) | exact KeepsH.sub subA), ?_⟩
              refine AS_one 8 rfl (by decide +kernel) rfl ?_
              (first | (apply L_P; (· exact rfl); (· exact rfl)) | (apply QL_P; (· exact rfl))); (· (apply P_bytesStr; (· exact evA); (· exact pullA); (· exact (show _ = bts [byteOf x.num] by rw [e1]; rfl)); (· exact rfl)))
              refine L_nil ?_; refine ⟨rfl, (by first | exact KeepsH.brk (by decide +kernel) | exact KeepsH.sub subA), ?_⟩
              refine AS_at 9 (by decide +kernel) ?_; refine takeA ?_
              refine AS_at 16 (by decide +kernel) ?_; refine takeA ?_
              refine AS_at 25 (by decide +kernel) ?_; refine takeA ?_
              refine AS_at 26 (by decide +kernel) ?_; refine takeA ?_
              refine AS_done (by decide +kernel) ?_
              repeat (first | refine stepA ?_ | intro _)
              have et : opsB (l.take k) ++ [byteOf x.num] ++ two x.delta ++ [byteOf x.flags] = opsB (l.take (k + 1)) := by rw [take_next' hx, opsB_snoc]; simp [opB, twos]
              rw [et]
              refine ⟨rfl, k + 1, ⟨by omega, fun j y hj hy => ?_⟩, by omega, sublA, subA⟩
              by_cases hjk : j = k
              · subst hjk; rw [hx] at hy; cases hy; exact ⟨hd, by omega⟩
              · exact hbef j y (by omega) hy
        · skip
          refine callA ?_; refine ⟨_, _, rtwo_spec x.delta, _, cutA, ?_⟩
          rintro v H' ⟨rfl, rfl⟩
          simp only [List.cons_append, List.nil_append]
          refine L_nil ?_; refine ⟨rfl, (by first | exact KeepsH.brk (by decide +kernel) | exact KeepsH.sub subA), ?_⟩
          refine AS_two 7 24 rfl (by decide +kernel) rfl rfl ?_ ?_
          · skip
            refine stepA ?_
            intro ga
            refine L_nil ?_; refine ⟨rfl, (by first | exact KeepsH.brk (by decide +kernel) | exact KeepsH.sub subA), ?_⟩
            refine AS_two 8 24 rfl (by decide +kernel) rfl rfl ?_ ?_
            · skip
              (first | (apply L_P; (· exact rfl); (· exact rfl)) | (apply QL_P; (· exact rfl))); (· (apply P_bytesStr; (· exact evA); (· exact pullA); (· exact (show _ = bts [byteOf x.num] by rw [e1]; rfl)); (· exact rfl)))
              refine L_nil ?_; refine ⟨rfl, (by first | exact KeepsH.brk (by decide +kernel) | exact KeepsH.sub subA), ?_⟩
              refine AS_at 9 (by decide +kernel) ?_; refine takeA ?_
              refine AS_at 16 (by decide +kernel) ?_; refine takeA ?_
              refine AS_one 24 rfl (by decide +kernel) rfl ?_
              (first | (apply L_P; (· exact rfl); (· exact rfl)) | (apply QL_P; (· exact rfl))); (· (apply P_bytesStr; (· exact evA); (· exact pullA); (· exact (show _ = bts [byteOf x.flags] by rw [e2]; rfl)); (· exact rfl)))
              refine L_nil ?_; refine ⟨rfl, (by first | exact KeepsH.brk (by decide +kernel) | exact KeepsH.sub subA), ?_⟩
              refine AS_at 25 (by decide +kernel) ?_; refine takeA ?_
              refine AS_at 26 (by decide +kernel) ?_; refine takeA ?_
              refine AS_done (by decide +kernel) ?_
              repeat (first | refine stepA ?_ | intro _)
              have et : opsB (l.take k) ++ [byteOf x.num] ++ two x.delta ++ [byteOf x.flags] = opsB (l.take (k + 1)) := by rw [take_next' hx, opsB_snoc]; simp [opB, twos]
              rw [et]
              refine ⟨rfl, k + 1, ⟨by omega, fun j y hj hy => ?_⟩, by omega, sublA, subA⟩
              by_cases hjk : j = k
              · subst hjk; rw [hx] at hy; cases hy; exact ⟨hd, by omega⟩
              · exact hbef j y (by omega) hy
            · skip
              (first | (apply L_P; (· exact rfl); (· exact rfl)) | (apply QL_P; (· exact rfl))); (· (apply P_bytesStr; (· exact evA); (· exact pullA); (· exact (show _ = bts [byteOf x.flags] by rw [e2]; rfl)); (· exact rfl)))
              refine L_nil ?_; refine ⟨rfl, (by first | exact KeepsH.brk (by decide +kernel) | exact KeepsH.sub subA), ?_⟩
              refine AS_one 8 rfl (by decide +kernel) rfl ?_
              (first | (apply L_P; (· exact rfl); (· exact rfl)) | (apply QL_P; (· exact rfl))); (· (apply P_bytesStr; (· exact evA); (· exact pullA); (· exact (show _ = bts [byteOf x.num] by rw [e1]; rfl)); (· exact rfl)))
              refine L_nil ?_; refine ⟨rfl, (by first | exact KeepsH.brk (by decide +kernel) | exact KeepsH.sub subA), ?_⟩
              refine AS_at 9 (by decide +kernel) ?_; refine takeA ?_
              refine AS_at 16 (by decide +kernel) ?_; refine takeA ?_
              refine AS_at 25 (by decide +kernel) ?_; refine takeA ?_
              refine AS_at 26 (by decide +kernel) ?_; refine takeA ?_
              refine AS_done (by decide +kernel) ?_
              repeat (first | refine stepA ?_ | intro _)
              have et : opsB (l.take k) ++ [byteOf x.num] ++ two x.delta ++ [byteOf x.flags] = opsB (l.take (k + 1)) := by rw [take_next' hx, opsB_snoc]; simp [opB, twos]
              rw [et]
              refine ⟨rfl, k + 1, ⟨by omega, fun j y hj hy => ?_⟩, by omega, sublA, subA⟩
              by_cases hjk : j = k
              · subst hjk; rw [hx] at hy; cases hy; exact ⟨hd, by omega⟩
              · exact hbef j y (by omega) hy
          · skip
            (first | (apply L_P; (· exact rfl); (· exact rfl)) | (apply QL_P; (· exact rfl))); (· (apply P_bytesStr; (· exact evA); (· exact pullA); (· exact (show _ = bts [byteOf x.flags] by rw [e2]; rfl)); (· exact rfl)))
            refine L_nil ?_; refine ⟨rfl, (by first | exact KeepsH.brk (by decide +kernel) | exact KeepsH.sub subA), ?_⟩
            refine AS_one 7 rfl (by decide +kernel) rfl ?_
            refine stepA ?_
            intro ga
            refine L_nil ?_; refine ⟨rfl, (by first | exact KeepsH.brk (by decide +kernel) | exact KeepsH.sub subA), ?_⟩
            refine AS_one 8 rfl (by decide +kernel) rfl ?_
            (first | (apply L_P; (· exact rfl); (· exact rfl)) | (apply QL_P; (· exact rfl))); (· (apply P_bytesStr; (· exact evA); (· exact pullA); (· exact (show _ = bts [byteOf x.num] by rw [e1]; rfl)); (· exact rfl)))
            refine L_nil ?_; refine ⟨rfl, (by first | exact KeepsH.brk (by decide +kernel) | exact KeepsH.sub subA), ?_⟩
            refine AS_at 9 (by decide +kernel) ?_; refine takeA ?_
            refine AS_at 16 (by decide +kernel) ?_; refine takeA ?_
            refine AS_at 25 (by decide +kernel) ?_; refine takeA ?_
            refine AS_at 26 (by decide +kernel) ?_; refine takeA ?_
            refine AS_done (by decide +kernel) ?_
            repeat (first | refine stepA ?_ | intro _)
            have et : opsB (l.take k) ++ [byteOf x.num] ++ two x.delta ++ [byteOf x.flags] = opsB (l.take (k + 1)) := by rw [take_next' hx, opsB_snoc]; simp [opB, twos]
            rw [et]
            refine ⟨rfl, k + 1, ⟨by omega, fun j y hj hy => ?_⟩, by omega, sublA, subA⟩
            by_cases hjk : j = k
            · subst hjk; rw [hx] at hy; cases hy; exact ⟨hd, by omega⟩
            · exact hbef j y (by omega) hy
        · skip
          (first | (apply L_P; (· exact rfl); (· exact rfl)) | (apply QL_P; (· exact rfl))); (· (apply P_bytesStr; (· exact evA); (· exact pullA); (· exact (show _ = bts [byteOf x.flags] by rw [e2]; rfl)); (· exact rfl)))
          refine L_nil ?_; refine ⟨rfl, (by first | exact KeepsH.brk (by decide +kernel) | exact KeepsH.sub subA), ?_⟩
          refine AS_two 7 15 rfl (by decide +kernel) rfl rfl ?_ ?_
          · skip
            refine stepA ?_
            intro ga
            refine L_nil ?_; refine ⟨rfl, (by first | exact KeepsH.brk (by decide +kernel) | exact KeepsH.sub subA), ?_⟩
            refine AS_two 8 15 rfl (by decide +kernel) rfl rfl ?_ ?_
            · skip
              (first | (apply L_P; (· exact rfl); (· exact rfl)) | (apply QL_P; (· exact rfl))); (· (apply P_bytesStr; (· exact evA); (· exact pullA); (· exact (show _ = bts [byteOf x.num] by rw [e1]; rfl)); (· exact rfl)))
              refine L_nil ?_; refine ⟨rfl, (by first | exact KeepsH.brk (by decide +kernel) | exact KeepsH.sub subA), ?_⟩
              refine AS_at 9 (by decide +kernel) ?_; refine takeA ?_
              refine AS_one 15 rfl (by decide +kernel) rfl ?_
              refine callA ?_; refine ⟨_, _, rtwo_spec x.delta, _, cutA, ?_⟩
              rintro v H' ⟨rfl, rfl⟩
              simp only [List.cons_append, List.nil_append]
              refine L_nil ?_; refine ⟨rfl, (by first | exact KeepsH.brk (by decide +kernel) | exact KeepsH.sub subA), ?_⟩
              refine AS_at 16 (by decide +kernel) ?_; refine takeA ?_
              refine AS_at 25 (by decide +kernel) ?_; refine takeA ?_
              refine AS_at 26 (by decide +kernel) ?_; refine takeA ?_
              refine AS_done (by decide +kernel) ?_
              repeat (first | refine stepA ?_ | intro _)
              have et : opsB (l.take k) ++ [byteOf x.num] ++ two x.delta ++ [byteOf x.flags] = opsB (l.take (k + 1)) := by rw [take_next' hx, opsB_snoc]; simp [opB, twos]
              rw [et]
              refine ⟨rfl, k + 1, ⟨by omega, fun j y hj hy => ?_⟩, by omega, sublA, subA⟩
              by_cases hjk : j = k
              · subst hjk; rw [hx] at hy; cases hy; exact ⟨hd, by omega⟩
              · exact hbef j y (by omega) hy
            · skip
              refine callA ?_; refine ⟨_, _, rtwo_spec x.delta, _, cutA, ?_⟩
              rintro v H' ⟨rfl, rfl⟩
              simp only [List.cons_append, List.nil_append]
              refine L_nil ?_; refine ⟨rfl, (by first | exact KeepsH.brk (by decide +kernel) | exact KeepsH.sub subA), ?_⟩
              refine AS_one 8 rfl (by decide +kernel) rfl ?_
              (first | (apply L_P; (· exact rfl); (· exact rfl)) | (apply QL_P; (· exact rfl))); (· (apply P_bytesStr; (· exact evA); (· exact pullA); (· exact (show _ = bts [byteOf x.num] by rw [e1]; rfl)); (· exact rfl)))
              refine L_nil ?_; refine ⟨rfl, (by first | exact KeepsH.brk (by decide +kernel) | exact KeepsH.sub subA), ?_⟩
              refine AS_at 9 (by decide +kernel) ?_; refine takeA ?_
              refine AS_at 16 (by decide +kernel) ?_; refine takeA ?_
              refine AS_at 25 (by decide +kernel) ?_; refine takeA ?_
              refine AS_at 26 (by decide +kernel) ?_; refine takeA ?_
              refine AS_done (by decide +kernel) ?_
              repeat (first | refine stepA ?_ | intro _)
              have et : opsB (l.take k) ++ [byteOf x.num] ++ two x.delta ++ [byteOf x.flags] = opsB (l.take (k + 1)) := by rw [take_next' hx, opsB_snoc]; simp [opB, twos]
              rw [et]
              refine ⟨rfl, k + 1, ⟨by omega, fun j y hj hy => ?_⟩, by omega, sublA, subA⟩
              by_cases hjk : j = k
              · subst hjk; rw [hx] at hy; cases hy; exact ⟨hd, by omega⟩
              · exact hbef j y (by omega) hy
          · skip
            refine callA ?_; refine ⟨_, _, rtwo_spec x.delta, _, cutA, ?_⟩
            rintro v H' ⟨rfl, rfl⟩
            simp only [List.cons_append, List.nil_append]
            refine L_nil ?_; refine ⟨rfl, (by first | exact KeepsH.brk (by decide +kernel) | exact KeepsH.sub subA), ?_⟩
            refine AS_one 7 rfl (by decide +kernel) rfl ?_
            refine stepA ?_
            intro ga
            refine L_nil ?_; refine ⟨rfl, (by first | exact KeepsH.brk (by decide +kernel) | exact KeepsH.sub subA), ?_⟩
            refine AS_one 8 rfl (by decide +kernel) rfl ?_
            (first | (apply L_P; (· exact rfl); (· exact rfl)) | (apply QL_P; (· exact rfl))); (· (apply P_bytesStr; (· exact evA); (· exact pullA); (· exact (show _ = bts [byteOf x.num] by rw [e1]; rfl)); (· exact rfl)))
            refine L_nil ?_; refine ⟨rfl, (by first | exact KeepsH.brk (by decide +kernel) | exact KeepsH.sub subA), ?_⟩
            refine AS_at 9 (by decide +kernel) ?_; refine takeA ?_
            refine AS_at 16 (by decide +kernel) ?_; refine takeA ?_
            refine AS_at 25 (by decide +kernel) ?_; refine takeA ?_
            refine AS_at 26 (by decide +kernel) ?_; refine takeA ?_
            refine AS_done (by decide +kernel) ?_
            repeat (first | refine stepA ?_ | intro _)
            have et : opsB (l.take k) ++ [byteOf x.num] ++ two x.delta ++ [byteOf x.flags] = opsB (l.take (k + 1)) := by rw [take_next' hx, opsB_snoc]; simp [opB, twos]
            rw [et]
            refine ⟨rfl, k + 1, ⟨by omega, fun j y hj hy => ?_⟩, by omega, sublA, subA⟩
            by_cases hjk : j = k
            · subst hjk; rw [hx] at hy; cases hy; exact ⟨hd, by omega⟩
            · exact hbef j y (by omega) hy
    · skip
      repeat (first | refine stepA ?_ | intro _)
      refine callA ?_; refine ⟨_, _, rshortF x.delta hd, _, cutA, ?_⟩
      rintro v H' ⟨rfl, rfl⟩
      simp only [List.cons_append, List.nil_append]
      repeat (first | refine stepA ?_ | intro _)
      (first | refine retA ?_ | refine retB ?_)
      exact ⟨_, ⟨.inr ⟨fun q => hd (q k x hx).1, rfl⟩, rfl⟩, subA⟩
  · obtain rfl : k = n := by omega
    rw [List.take_of_length_le (by omega)]
    repeat (first | refine stepA ?_ | intro _)
    (first | refine retA ?_ | refine retB ?_)
    exact ⟨_, ⟨.inl ⟨fun j y hy => hbef j y (by have := (List.getElem?_eq_some_iff.1 hy).1; omega) hy, rfl⟩, rfl⟩, subA⟩
end Go.Proofs.Ytkcfckjiagjocaa
