/-
  Joined texts; each begins with its own sentence.
-/
import Derived.Test.YtcpfmjlceoiofaaGreatDoorL42
import Derived.Test.YtcpfmjlceoiofaaGreatDoorL40
import Derived.Test.YtcpfmjlceoiofaaGreatDoorL12
set_option linter.unusedSimpArgs false
set_option linter.unusedVariables false
set_option linter.unusedSectionVars false
/-
  Pipes: within, ring.New, New, isOf, change, counts, Close.
-/
namespace Go.Proofs.YtcpfmjlceoiofaaGreatDoor
open Go.RowKit
section rules
variable {X : Cx} {l : St} {H : Hp}
variable {d ty : Nat} {pos : String} {after : Array Edge}
/-- an array, of which some are told -/
theorem P_buildArr {t n e k : Nat} {z cs : List Value} {ps : List (Nat × Operand)} {vs : List (Nat × Value)} [T : TyArr X.P t n e k] [Z : TyZ X.P t z] (hp : evps l ps = some vs)
    (hf : Instr.fill (fun i => some (i * k, k)) z.toArray vs = some cs.toArray) :
    PureOp X H l { dst := some d, op := .build t ps.toArray, type := ty, pos, after, guard := none } (.agg cs.toArray) :=
  fun ρ hρ w _ => by
    have hm : (ps.toArray.map fun (p : Nat × Operand) => (p.1, ρ p.2)).toList = vs := by rw [← evps_fits hp ρ hρ]; simp
    obtain ⟨u, hz1, hz2⟩ : ∃ u, (zeroValue t).run X.P w = .ok u w ∧ u.cells = z.toArray := by
      have hz := Z.zero
      cases hq : X.P.info? t with
      | none => simp [hq] at hz
      | some i =>
        cases hi : i.zero with
        | none => simp [hq, hi] at hz
        | some u => simp [hq, hi] at hz; exact ⟨u, by simp [zeroValue, typeInfo, hq, hi], hz⟩
    have hs : (sizeOf e).run X.P w = .ok k w := by
      have h := T.size
      cases hq : X.P.info? e with
      | none => simp [hq] at h
      | some i => simp [hq] at h; simp [sizeOf, typeInfo, hq, h]
    simp only [execOp, Instr.build, Sem.run_bind, hz1, Result.andThen_ok, Sem.run_pure, hz2, run_underlying T.und w, hs]
    erw [hm, hf]
    simp
end rules
open Go.RowKit
attribute [local irreducible] W L QL PureOp thenQ blockQ retQ Spec IterOk YSpec roundQ scopeQ noGoQ
attribute [local irreducible] AS ASi IterOkC retD retE
set_option maxHeartbeats 6400000
set_option maxRecDepth 4000
theorem rwithin1 (least most x : Int) (g : Nat) (h : least ≤ x ∧ x ≤ most) : Spec Tryz.prog 319 [.int .i64 least, .int .i64 most, .slice (some ⟨g, 0, none⟩) 1 1] [(g, .cells [.int .i64 x] 3)] fun v H' => v = .bool true ∧ H' = [(g, .cells [.int .i64 x] 3)] := by
  obtain ⟨h1, h2⟩ := h
  refine Spec_body Tryz.func319 rfl Tryz.ntmps319 rfl (fun w0 => ?_)
  repeat (first | refine stepA ?_ | intro _)
  refine W_loop (fun k : Nat => [(0, .int .i64 least), (1, .int .i64 most), (9, .slice (some ⟨g, 0, none⟩) 1 1), (10, .int .i64 1), (11, .int .i64 (k : Int))]) (fun _ => [(g, .cells [.int .i64 x] 3)]) (fun k => k ≤ 1) (fun k => 1 - k) 0 (by omega) sublA subA ?_
  intro k hk
  by_cases h0 : k = 0
  · subst h0
    repeat (first | refine stepA ?_ | intro _)
    exact ⟨rfl, 1, by omega, by omega, sublA, subA⟩
  · obtain rfl : k = 1 := by omega
    repeat (first | refine stepA ?_ | intro _)
    (first | refine retA ?_ | refine retB ?_); exact ⟨_, ⟨rfl, rfl⟩, subA⟩
/-- an empty ring -/
abbrev rgB (b : Nat) : Nat × Blk := (b, .cells (List.replicate 64 (.int .u8 0) ++ [.int .i64 32, .int .i64 0, .int .i64 0]) 492)
theorem ringnew_spec : Spec Tryz.prog 215 [.int .i64 32] [] fun v H' => ∃ b, v = .tuple #[ptrB b, .int .i64 0] ∧ H' = [rgB b] := by
  refine Spec_body Tryz.func215 rfl Tryz.ntmps215 rfl (fun w0 => ?_)
  repeat (first | refine stepA ?_ | intro _)
  rename_i g
  refine callA ?_; refine ⟨_, _, rwithin1 1 64 32 g (by omega), _, cutA, ?_⟩
  rintro v H' ⟨rfl, rfl⟩
  simp only [List.cons_append, List.nil_append]
  repeat (first | refine stepA ?_ | intro _)
  rename_i b
  (first | refine retA ?_ | refine retB ?_)
  exact ⟨_, ⟨b, rfl, rfl⟩, subA⟩
/-- a pipe: its ring, how many readers and writers it has -/
abbrev pqB (b rb : Nat) (r w : Int) : Nat × Blk := (b, .cells [ptrB rb, .int .i64 0, .int .i64 r, .int .i64 w] 384)
theorem pinew_spec : Spec Tryz.prog 122 [] [] fun v H' => ∃ b rb, v = ptrB b ∧ H' = [pqB b rb 1 1, rgB rb] := by
  refine Spec_body Tryz.func122 rfl Tryz.ntmps122 rfl (fun w0 => ?_)
  repeat (first | refine stepA ?_ | intro _)
  refine callA ?_; refine ⟨_, _, ringnew_spec, _, cutA, ?_⟩
  rintro v H' ⟨rb, rfl, rfl⟩
  simp only [List.cons_append, List.nil_append]
  repeat (first | refine stepA ?_ | intro _)
  refine L_P rfl rfl (P_buildArr (cs := [.int .i64 0, .int .i64 1, .int .i64 1]) rfl (by kernel_rfl)) ?_
  repeat (first | refine stepA ?_ | intro _)
  rename_i b
  (first | refine retA ?_ | refine retB ?_)
  exact ⟨_, ⟨b, rb, rfl, rfl⟩, subA⟩
theorem piisof_spec (g cap : Nat) (k : Int) (hk : k = 1 ∨ k = 2) : Spec Tryz.prog 392 [.int .i64 k, .slice (some ⟨g, 0, none⟩) 2 cap] [(g, .cells [.int .i64 1, .int .i64 2] 3)] fun v H' => v = .bool true ∧ H' = [(g, .cells [.int .i64 1, .int .i64 2] 3)] := by
  refine Spec_body Tryz.func392 rfl Tryz.ntmps392 rfl (fun w0 => ?_)
  repeat (first | refine stepA ?_ | intro _)
  refine W_loop (fun j : Nat => [(0, .int .i64 k), (7, .slice (some ⟨g, 0, none⟩) 2 cap), (8, .int .i64 2), (9, .int .i64 (j : Int))]) (fun _ => [(g, .cells [.int .i64 1, .int .i64 2] 3)]) (fun j => j = 0 ∨ j = 1 ∧ k = 2) (fun j => 2 - j) 0 (.inl rfl) sublA subA ?_
  rintro j (rfl | ⟨rfl, rfl⟩)
  · rcases hk with rfl | rfl
    · repeat (first | refine stepA ?_ | intro _)
      (first | refine retA ?_ | refine retB ?_); exact ⟨_, ⟨rfl, rfl⟩, subA⟩
    · repeat (first | refine stepA ?_ | intro _)
      exact ⟨rfl, 1, .inr ⟨rfl, rfl⟩, by omega, sublA, subA⟩
  · repeat (first | refine stepA ?_ | intro _)
    (first | refine retA ?_ | refine retB ?_); exact ⟨_, ⟨rfl, rfl⟩, subA⟩
section
variable (b rb : Nat)
/-- one end fewer -/
theorem pichange_r (r w : Int) (hr : 1 ≤ r ∧ r ≤ 100) : Spec Tryz.prog 325 [ptrB b, .int .i64 1, .int .i64 (-1)] [pqB b rb r w] fun v H' => v = .int .i64 0 ∧ H' = [pqB b rb (r + -1) w] := by
  obtain ⟨h1, h2⟩ := hr
  refine Spec_body Tryz.func325 rfl Tryz.ntmps325 rfl (fun w0 => ?_)
  repeat (first | refine stepA ?_ | intro _)
  rename_i g
  refine callA ?_; refine ⟨_, _, piisof_spec g 2 1 (.inl rfl), _, cutA, ?_⟩
  rintro v H' ⟨rfl, rfl⟩
  simp only [List.cons_append, List.nil_append]
  repeat (first | refine stepA ?_ | intro _)
  refine W_any [pqB b rb r w] [11] rfl ?_
  refine AS_at 0 (by decide +kernel) ?_; refine takeA ?_
  refine AS_at 1 (by decide +kernel) ?_; refine takeA ?_
  refine AS_at 2 (by decide +kernel) ?_; refine takeA ?_
  refine AS_at 3 (by decide +kernel) ?_; refine takeA ?_
  refine AS_at 4 (by decide +kernel) ?_; refine takeA ?_
  refine AS_at 5 (by decide +kernel) ?_; refine takeA ?_
  refine AS_at 6 (by decide +kernel) ?_; refine takeA ?_
  refine AS_at 7 (by decide +kernel) ?_; refine takeA ?_
  refine AS_at 8 (by decide +kernel) ?_; refine takeA ?_
  refine AS_at 9 (by decide +kernel) ?_; refine takeA ?_
  refine AS_at 10 (by decide +kernel) ?_; refine takeA ?_
  refine AS_one 11 rfl (by decide +kernel) rfl ?_
  apply L_store1; (· exact evA); (· exact rfl); (· exact rfl); (· exact rfl); (· exact repA); (· exact (show List.set _ _ _ = [ptrB rb, .int .i64 0, .int .i64 (r + -1), .int .i64 (w)] from rfl)); (· simp)
  refine L_nil ?_; refine ⟨rfl, (by first | exact KeepsH.brk (by decide +kernel) | exact KeepsH.sub subA | exact KeepsH.sub subT), ?_⟩
  refine AS_done (by decide +kernel) ?_
  repeat (first | refine stepA ?_ | intro _)
  (first | refine retA ?_ | refine retB ?_); exact ⟨_, ⟨rfl, rfl⟩, subA⟩
theorem pichange_w (r w : Int) (hr : 1 ≤ w ∧ w ≤ 100) : Spec Tryz.prog 325 [ptrB b, .int .i64 2, .int .i64 (-1)] [pqB b rb r w] fun v H' => v = .int .i64 0 ∧ H' = [pqB b rb r (w + -1)] := by
  obtain ⟨h1, h2⟩ := hr
  refine Spec_body Tryz.func325 rfl Tryz.ntmps325 rfl (fun w0 => ?_)
  repeat (first | refine stepA ?_ | intro _)
  rename_i g
  refine callA ?_; refine ⟨_, _, piisof_spec g 2 2 (.inr rfl), _, cutA, ?_⟩
  rintro v H' ⟨rfl, rfl⟩
  simp only [List.cons_append, List.nil_append]
  repeat (first | refine stepA ?_ | intro _)
  refine W_any [pqB b rb r w] [11] rfl ?_
  refine AS_at 0 (by decide +kernel) ?_; refine takeA ?_
  refine AS_at 1 (by decide +kernel) ?_; refine takeA ?_
  refine AS_at 2 (by decide +kernel) ?_; refine takeA ?_
  refine AS_at 3 (by decide +kernel) ?_; refine takeA ?_
  refine AS_at 4 (by decide +kernel) ?_; refine takeA ?_
  refine AS_at 5 (by decide +kernel) ?_; refine takeA ?_
  refine AS_at 6 (by decide +kernel) ?_; refine takeA ?_
  refine AS_at 7 (by decide +kernel) ?_; refine takeA ?_
  refine AS_at 8 (by decide +kernel) ?_; refine takeA ?_
  refine AS_at 9 (by decide +kernel) ?_; refine takeA ?_
  refine AS_at 10 (by decide +kernel) ?_; refine takeA ?_
  refine AS_one 11 rfl (by decide +kernel) rfl ?_
  apply L_store1; (· exact evA); (· exact rfl); (· exact rfl); (· exact rfl); (· exact repA); (· exact (show List.set _ _ _ = [ptrB rb, .int .i64 0, .int .i64 (r), .int .i64 (w + -1)] from rfl)); (· simp)
  refine L_nil ?_; refine ⟨rfl, (by first | exact KeepsH.brk (by decide +kernel) | exact KeepsH.sub subA | exact KeepsH.sub subT), ?_⟩
  refine AS_done (by decide +kernel) ?_
  repeat (first | refine stepA ?_ | intro _)
  (first | refine retA ?_ | refine retB ?_); exact ⟨_, ⟨rfl, rfl⟩, subA⟩
abbrev pxB (bx b : Nat) : Nat × Blk := (bx, .cells [ptrB b] 98)
theorem picounts_spec : Spec Tryz.prog 326 [ptrB b] [] fun v H' => ∃ bx, v = .func (.func 393) #[] #[ptrB bx] ∧ H' = [pxB bx b] := by
  refine Spec_body Tryz.func326 rfl Tryz.ntmps326 rfl (fun w0 => ?_)
  repeat (first | refine stepA ?_ | intro _)
  rename_i bx
  (first | refine retA ?_ | refine retB ?_)
  exact ⟨_, ⟨bx, rfl, rfl⟩, subA⟩
/-- how many ends of a kind there are -/
def cntP (r w : Int) (k : Nat) : Int := if k = 0 then 0 else if k = 1 then r else w
theorem picounts_iter (bx : Nat) (r w : Int) : IterOkC Tryz.prog 393 [ptrB bx]
    (fun (I J : Nat → Hp → Prop) => (∀ H, I 0 H → ∃ R, Cut [pxB bx b, pqB b rb r w] H R) ∧ ∀ k H, J k H → I (k + 1) H)
    (fun k => k < 3) (fun k => [.int .i64 (cntP r w k)]) (fun k => k = 3) 0 := by
  unfold IterOkC
  rintro y I J S ⟨hA, hJ⟩ hy H h0
  obtain ⟨R, hcut⟩ := hA H h0
  refine Spec_body Tryz.func393 rfl Tryz.ntmps393 rfl (fun w0 => ?_)
  refine W_perm hcut.perm ?_
  simp only [List.cons_append, List.nil_append]
  repeat (first | refine stepA ?_ | intro _)
  refine W_loop (fun x : Nat × Hp => [(0, .func (.yield y) #[] #[]), (8, .agg #[.int .i64 0, .int .i64 r, .int .i64 w]), (9, .int .i64 (x.1 : Int))]) (fun x => x.2) (fun x => x.1 ≤ 3 ∧ I x.1 x.2) (fun x => 3 - x.1) (0, H) ⟨Nat.zero_le _, h0⟩ sublA (Sub.ofPerm hcut.perm) ?_
  rintro ⟨k, Hk⟩ ⟨hk, hIk⟩
  simp only at hk hIk ⊢
  by_cases hlt : k < 3
  · have hval : ([.int .i64 0, .int .i64 r, .int .i64 w] : List Value)[k]? = some (.int .i64 (cntP r w k)) := by
      have : k = 0 ∨ k = 1 ∨ k = 2 := by omega
      rcases this with rfl | rfl | rfl <;> rfl
    repeat (first | refine stepA ?_ | intro _)
    have hyk := hy k Hk hIk hlt
    refine L_yield rfl (ev_of rfl (by with_reducible rfl)) rfl hyk (R0 := []) ?_ ?_
    · rw [List.append_nil]
    · rintro b' H' hb
      rw [List.append_nil]
      rcases hb with ⟨rfl, hb⟩ | ⟨rfl, hb⟩
      · repeat (first | refine stepA ?_ | intro _)
        exact ⟨rfl, (k + 1, H'), ⟨hlt, hJ k H' hb⟩, by simp only; omega, sublA, Sub.refl _⟩
      · repeat (first | refine stepA ?_ | intro _)
        (first | refine retA ?_ | refine retB ?_)
        exact ⟨_, .inr hb, Sub.refl _⟩
  · obtain rfl : k = 3 := by omega
    repeat (first | refine stepA ?_ | intro _)
    (first | refine retA ?_ | refine retB ?_)
    exact ⟨_, .inl ⟨_, rfl, hIk⟩, Sub.refl _⟩
abbrev boB (bx : Nat) (v : Bool) : Nat × Blk := (bx, .cells [.bool v] 4)
theorem piclose_of (kind r w r' w' : Int) (h0 : 0 ≤ r' ∧ 0 ≤ w') (hch : Spec Tryz.prog 325 [ptrB b, .int .i64 kind, .int .i64 (-1)] [pqB b rb r w] fun v H' => v = .int .i64 0 ∧ H' = [pqB b rb r' w']) :
    Spec Tryz.prog 224 [ptrB b, .int .i64 kind] [pqB b rb r w] fun v H' => v = .tuple #[.bool (decide (r' = 0 ∧ w' = 0)), .int .i64 0] ∧ H' = [pqB b rb r' w'] := by
  have inst : FnOk Tryz.prog 393 := inferInstance
  refine Spec_body Tryz.func224 rfl Tryz.ntmps224 rfl (fun w0 => ?_)
  repeat (first | refine stepA ?_ | intro _)
  refine callA ?_; refine ⟨_, _, hch, _, cutA, ?_⟩
  rintro v H' ⟨rfl, rfl⟩
  simp only [List.cons_append, List.nil_append]
  repeat (first | refine stepA ?_ | intro _)
  rename_i b7
  refine callA ?_; refine ⟨_, _, picounts_spec b, _, cutA, ?_⟩
  rintro v H' ⟨bx, rfl, rfl⟩
  simp only [List.cons_append, List.nil_append]
  repeat (first | refine stepA ?_ | intro _)
  refine W_rangeC rfl (ev_of rfl (by with_reducible rfl)) inst (picounts_iter b rb bx r' w') (fun _ => rfl) (by simp)
    (fun k Hc => (∀ j, j < k → cntP r' w' j = 0) ∧ Hc = [pxB bx b, pqB b rb r' w', boB b7 true])
    (fun k Hc => (∀ j, j < k + 1 → cntP r' w' j = 0) ∧ Hc = [pxB bx b, pqB b rb r' w', boB b7 true])
    (fun cd Hc => cd = .exit 0 ∧ ¬ (r' = 0 ∧ w' = 0) ∧ Hc = [pxB bx b, pqB b rb r' w', boB b7 false])
    (fun u v => ⟨by
      rintro H ⟨Hc, ⟨_, rfl⟩, rfl⟩
      exact ⟨_, .cons (.there (.there .here)) (.cons (.there (.there .here)) .nil)⟩, fun k H h => h⟩)
    ⟨_, ⟨fun j h => absurd h (by omega), rfl⟩, subA⟩ ?_ ?_ ?_
  · rintro y k Hc w1 ⟨hz, rfl⟩ hk
    obtain ⟨z, hzz⟩ : ∃ z, z = cntP r' w' k := ⟨_, rfl⟩
    rw [← hzz]
    repeat (first | refine stepA ?_ | intro _)
    refine ⟨rfl, fun w2 => ?_⟩
    by_cases hp : z > 0
    · have hne : ¬ (r' = 0 ∧ w' = 0) := by
        rintro ⟨rfl, rfl⟩
        rw [hzz, cntP] at hp
        split at hp
        · omega
        · split at hp <;> omega
      repeat (first | refine stepA ?_ | intro _)
      exact roundQ_e ⟨rfl, hne, rfl⟩ subT
    · have hz0 : cntP r' w' k = 0 := by
        rw [hzz] at hp
        revert hp
        rw [cntP]
        intro hp
        split
        · rfl
        · rename_i hk0
          rw [if_neg hk0] at hp
          split
          · rename_i hk1
            rw [if_pos hk1] at hp
            omega
          · rename_i hk1
            rw [if_neg hk1] at hp
            omega
      repeat (first | refine stepA ?_ | intro _)
      refine roundQ_n (Hc := [pxB bx b, pqB b rb r' w', boB b7 true]) ⟨fun j hj => ?_, rfl⟩ subT
      by_cases hjk : j = k
      · rw [hjk]; exact hz0
      · exact hz j (by omega)
  · rintro D k Hc rfl ⟨hz, rfl⟩
    have h1 := hz 1 (by omega)
    have h2 := hz 2 (by omega)
    have e : decide (r' = 0 ∧ w' = 0) = true := decide_eq_true ⟨h1, h2⟩
    rw [e]
    repeat (first | refine stepA ?_ | intro _)
    (first | refine retA ?_ | refine retB ?_); exact ⟨_, ⟨rfl, rfl⟩, subA⟩
  · rintro D cd Hc ⟨rfl, hne, rfl⟩
    rw [decide_eq_false hne]
    repeat (first | refine stepA ?_ | intro _)
    (first | refine retA ?_ | refine retB ?_); exact ⟨_, ⟨rfl, rfl⟩, subA⟩
end
end Go.Proofs.YtcpfmjlceoiofaaGreatDoor

/-
  Descriptors: find, free, Open, Close.
-/
namespace Go.Proofs.YtcpfmjlceoiofaaGreatDoor
open Go.RowKit
attribute [local irreducible] W L QL PureOp thenQ blockQ retQ Spec IterOk YSpec roundQ scopeQ noGoQ
attribute [local irreducible] AS ASi IterOkC retD retE
set_option maxHeartbeats 6400000
set_option maxRecDepth 4000
/-- an open file: its kind, its thing, how many descriptors refer to it -/
abbrev flK (b : Nat) (kind thing refs : Int) : Nat × Blk := (b, .cells [.int .i64 kind, .int .i64 thing, .int .i64 refs] 345)
/-- a row whose first k descriptors are taken -/
structure RowAt (fds : List (Option Addr)) (k : Nat) : Prop where
  len : fds.length = 8
  tk : ∀ j, j < k → fds[j]? ≠ some none
  fr : ∀ j, k ≤ j → j < 8 → fds[j]? = some none
theorem rowAt_none : RowAt noneR 0 := ⟨rfl, fun j h => absurd h (by omega), fun j _ h => none_at h⟩
theorem RowAt.set {fds : List (Option Addr)} {k : Nat} (h : RowAt fds k) (hk : k < 8) (a : Addr) : RowAt (fds.set k (some a)) (k + 1) := by
  refine ⟨by rw [List.length_set]; exact h.len, fun j hj => ?_, fun j h1 h2 => ?_⟩
  · rw [List.getElem?_set]
    by_cases e : k = j
    · rw [if_pos e, if_pos (by rw [h.len]; exact hk)]; simp
    · rw [if_neg e]; exact h.tk j (by omega)
  · rw [List.getElem?_set, if_neg (by omega)]
    exact h.fr j (by omega) h2
theorem fitII (a b : Int) : FitK [.int .i64, .int .i64] [.int .i64 a, .int .i64 b] := by
  refine ⟨rfl, fun j k h => ?_⟩
  match j, h with
  | 0, h => cases h; exact ⟨_, rfl, _, rfl⟩
  | 1, h => cases h; exact ⟨_, rfl, _, rfl⟩
section
variable (rb : Nat)
theorem rowfree_spec {fds : List (Option Addr)} {k : Nat} (h : RowAt fds k) (hk : k < 8) : Spec Tryz.prog 216 [ptrB rb] [rowK rb fds] fun v H' => v = .int .i64 (k : Int) ∧ H' = [rowK rb fds] := by
  refine Spec_body Tryz.func216 rfl Tryz.ntmps216 rfl (fun w0 => ?_)
  repeat (first | refine stepA ?_ | intro _)
  rename_i bn
  refine callA ?_; refine ⟨_, _, each_spec rb, _, cutA, ?_⟩
  rintro v H' ⟨br, rfl, rfl⟩
  simp only [List.cons_append, List.nil_append]
  repeat (first | refine stepA ?_ | intro _)
  have inst : FnOk Tryz.prog 312 := inferInstance
  refine W_rangeC rfl (ev_of rfl (by with_reducible rfl)) inst (each_iter br rb (fun _ => fds) (fun _ => h.len)) (fun _ => rfl) (by simp)
    (fun j Hc => Hc = [rpB br rb, rowK rb fds, inK bn ((min j k : Nat) : Int)])
    (fun j Hc => Hc = [rpB br rb, rowK rb fds, inK bn ((min (j + 1) k : Nat) : Int)])
    (fun _ _ => False)
    (fun u v => ⟨by
      rintro j H ⟨Hc, rfl, rfl⟩
      exact ⟨_, .cons (.there (.there .here)) (.cons (.there (.there .here)) .nil)⟩, by
      rintro j H hj hn ⟨Hc, rfl, rfl⟩
      have hjk : k ≤ j := by
        refine Nat.le_of_not_lt fun hlt => h.tk j hlt hn
      exact ⟨_, by rw [show min (j + 1) k = min j k by omega], rfl⟩, fun j H h => h⟩)
    ⟨_, rfl, by rw [Nat.zero_min]; exact subA⟩ ?_ ?_ ?_
  · rintro y j Hc w1 rfl ⟨hj8, hn⟩
    have hjk : j < k := Nat.lt_of_not_le fun hle => hn (h.fr j hle hj8)
    have e1 : min j k = j := by omega
    have e2 : min (j + 1) k = j + 1 := by omega
    rw [e1]
    repeat (first | refine stepA ?_ | intro _)
    refine ⟨rfl, fun w2 => ?_⟩
    repeat (first | refine stepA ?_ | intro _)
    exact roundQ_n (Hc := [rpB br rb, rowK rb fds, inK bn ((min (j + 1) k : Nat) : Int)]) rfl (by rw [e2]; exact subT)
  · rintro D j Hc rfl rfl
    rw [show min 8 k = k by omega]
    repeat (first | refine stepA ?_ | intro _)
    (first | refine retA ?_ | refine retB ?_); exact ⟨_, ⟨rfl, rfl⟩, subA⟩
  · rintro D cd Hc h
    exact h.elim
end
section
variable (r mb : Nat) (count : Int) {L : List RowE} {c : Nat}
theorem fifind_spec (pid : Int) (h1 : 1 ≤ pid) {x : RowE} (hx : findG L pid = some x) (j : Nat) (hj : j < 8) (fds : List (Option Addr)) {a : Addr} (ha : fds[j]? = some (some a)) :
    Spec Tryz.prog 185 [ptrB r, .int .i64 pid, .int .i64 (j : Int)] [flB r mb count, rmB mb L c, rowK x.b fds] fun v H' => v = .tuple #[.pointer (some a), .int .i64 0] ∧ H' = [flB r mb count, rmB mb L c, rowK x.b fds] := by
  have ha2 : (fds.map Value.pointer)[j]? = some (.pointer (some a)) := by rw [List.getElem?_map, ha]; rfl
  refine Spec_body Tryz.func185 rfl Tryz.ntmps185 rfl (fun w0 => ?_)
  repeat (first | refine stepA ?_ | intro _)
  rename_i g
  have hck := ficheck_spec r g 1 [pid] (by simp)
  rw [show ([pid].all fun x => decide (1 ≤ x)) = true by simp [h1]] at hck
  simp only [ivs, List.map_cons, List.map_nil, List.length_cons, List.length_nil, Nat.zero_add, Nat.reduceAdd, if_true] at hck
  refine callA ?_; refine ⟨_, _, hck, _, cutA, ?_⟩
  rintro v H' ⟨rfl, rfl⟩
  simp only [List.cons_append, List.nil_append]
  repeat (first | refine stepA ?_ | intro _)
  (first | (apply L_P; (· exact rfl); (· exact rfl)) | (apply QL_P; (· exact rfl))); (· (apply P_lookupOk; (· exact evA); (· exact evA); (· exact pullA)))
  rw [getL_g, hx]
  simp only [Option.map_some, Option.getD_some, Option.isSome_some]
  repeat (first | refine stepA ?_ | intro _)
  (first | refine retA ?_ | refine retB ?_); exact ⟨_, ⟨rfl, rfl⟩, subA⟩
theorem fiopen_spec (h : WfG L c) (pid kind thing : Int) (h1 : 1 ≤ pid) (hk : kind = 1 ∨ kind = 2) (ht : 0 ≤ thing ∧ thing ≤ 100000) (hc : 0 ≤ count ∧ count < 32) {x : RowE} (hx : findG L pid = some x) (j : Nat) (hj : j < 8) (hr : RowAt x.v j) :
    Spec Tryz.prog 123 [ptrB r, .int .i64 pid, .agg #[.int .i64 kind, .int .i64 thing]] (fiH r mb count L c) fun v H' => v = .tuple #[.int .i64 (j : Int), .int .i64 0] ∧ ∃ b, H' = flK b kind thing 1 :: fiH r mb (count + 1) (setG L pid (x.v.set j (some ⟨b, 0, none⟩))) c := by
  obtain ⟨T, hT, hset, -⟩ := blkG_at rowK hx
  have hx8 := hr.len
  refine Spec_body Tryz.func123 rfl Tryz.ntmps123 rfl (fun w0 => ?_)
  repeat (first | refine stepA ?_ | intro _)
  rename_i b5 g
  have hck := ficheck_spec r g 1 [pid] (by simp)
  rw [show ([pid].all fun x => decide (1 ≤ x)) = true by simp [h1]] at hck
  simp only [ivs, List.map_cons, List.map_nil, List.length_cons, List.length_nil, Nat.zero_add, Nat.reduceAdd, if_true] at hck
  refine callA ?_; refine ⟨_, _, hck, _, cutA, ?_⟩
  rintro v H' ⟨rfl, rfl⟩
  simp only [List.cons_append, List.nil_append]
  repeat (first | refine stepA ?_ | intro _)
  rename_i b9
  refine callA ?_; refine ⟨_, _, firow_spec r mb count L c pid, _, cutA, ?_⟩
  rintro v H' (⟨x2, hx2, rfl, rfl⟩ | ⟨hx2, -⟩)
  rotate_left
  · rw [hx] at hx2; cases hx2
  obtain rfl : x = x2 := Option.some.inj (hx.symm.trans hx2)
  simp only [List.cons_append, List.nil_append]
  refine L_tail hT ?_
  simp only [List.cons_append, List.nil_append]
  refine callA ?_; refine ⟨_, _, rowfree_spec x.b hr hj, _, cutA, ?_⟩
  rintro v H' ⟨rfl, rfl⟩
  simp only [List.cons_append, List.nil_append]
  repeat (first | refine stepA ?_ | intro _)
  (first | (apply L_P; (· exact rfl); (· exact rfl)) | (apply QL_P; (· exact rfl)))
  · exact P_eqS (xs := [.int .i64 kind, .int .i64 thing]) (ys := [.int .i64 0, .int .i64 0]) (b := false) (ev_of rfl rfl) (ev_of rfl rfl) (fitII _ _) (fitII _ _) (by simp; omega)
  repeat (first | refine stepA ?_ | intro _)
  refine W_any [flB r mb count, rmB mb L c, (b5, .cells [.int .i64 kind, .int .i64 thing] 208)] [] rfl ?_
  refine AS_at 0 (by decide +kernel) ?_; refine takeA ?_
  refine AS_at 1 (by decide +kernel) ?_; refine takeA ?_
  refine AS_at 2 (by decide +kernel) ?_; refine takeA ?_
  refine AS_at 3 (by decide +kernel) ?_; refine takeA ?_
  refine AS_at 4 (by decide +kernel) ?_; refine takeA ?_
  refine AS_at 6 (by decide +kernel) ?_; refine takeA ?_
  refine AS_at 7 (by decide +kernel) ?_; refine takeA ?_
  refine AS_at 8 (by decide +kernel) ?_; refine takeA ?_
  refine AS_two 5 9 rfl (by decide +kernel) rfl rfl ?_ ?_
  · skip
    (first | (apply L_P; (· exact rfl); (· exact rfl)) | (apply QL_P; (· exact rfl))); (· (apply P_lookup; (· exact evA); (· exact evA); (· exact pullA)))
    rw [getL_g, hx]
    simp only [Option.map_some, Option.getD_some]
    refine L_nil ?_; refine ⟨rfl, (by first | exact KeepsH.brk (by decide +kernel) | exact KeepsH.sub subA | exact KeepsH.sub subT), ?_⟩
    refine AS_at 10 (by decide +kernel) ?_; refine takeA ?_
    refine AS_one 9 rfl (by decide +kernel) rfl ?_
    refine stepA ?_
    intro bf
    refine L_nil ?_; refine ⟨rfl, (by first | exact KeepsH.brk (by decide +kernel) | exact KeepsH.sub subA | exact KeepsH.sub subT), ?_⟩
    refine AS_at 11 (by decide +kernel) ?_; refine takeA ?_
    refine AS_one 12 rfl (by decide +kernel) rfl ?_
    apply L_store1; (· exact evA); (· exact rfl); (· exact rfl); (· exact rfl); (· exact repA); (· exact List.map_set.symm); (· rw [List.length_map, hx8]; exact hj)
    refine L_nil ?_; refine ⟨rfl, (by first | exact KeepsH.brk (by decide +kernel) | exact KeepsH.sub subA | exact KeepsH.sub subT), ?_⟩
    refine AS_done (by decide +kernel) ?_
    repeat (first | refine stepA ?_ | intro _)
    (first | refine retA ?_ | refine retB ?_)
    refine ⟨_, ⟨rfl, bf, rfl⟩, ?_⟩
    show Sub (flK bf kind thing 1 :: flB r mb (count + 1) :: (mb, mapB ((setG L pid (x.v.set j (some ⟨bf, 0, none⟩))).map GE.kv) c) :: blkG rowK (setG L pid (x.v.set j (some ⟨bf, 0, none⟩)))) _
    rw [setG_kv]
    refine Sub.back (hset (x.v.set j (some ⟨bf, 0, none⟩))) ?_
    simp only [List.cons_append, List.nil_append]
    exact subT
  · skip
    refine stepA ?_
    intro bf
    refine L_nil ?_; refine ⟨rfl, (by first | exact KeepsH.brk (by decide +kernel) | exact KeepsH.sub subA | exact KeepsH.sub subT), ?_⟩
    refine AS_one 5 rfl (by decide +kernel) rfl ?_
    (first | (apply L_P; (· exact rfl); (· exact rfl)) | (apply QL_P; (· exact rfl))); (· (apply P_lookup; (· exact evA); (· exact evA); (· exact pullA)))
    rw [getL_g, hx]
    simp only [Option.map_some, Option.getD_some]
    refine L_nil ?_; refine ⟨rfl, (by first | exact KeepsH.brk (by decide +kernel) | exact KeepsH.sub subA | exact KeepsH.sub subT), ?_⟩
    refine AS_at 10 (by decide +kernel) ?_; refine takeA ?_
    refine AS_at 11 (by decide +kernel) ?_; refine takeA ?_
    refine AS_one 12 rfl (by decide +kernel) rfl ?_
    apply L_store1; (· exact evA); (· exact rfl); (· exact rfl); (· exact rfl); (· exact repA); (· exact List.map_set.symm); (· rw [List.length_map, hx8]; exact hj)
    refine L_nil ?_; refine ⟨rfl, (by first | exact KeepsH.brk (by decide +kernel) | exact KeepsH.sub subA | exact KeepsH.sub subT), ?_⟩
    refine AS_done (by decide +kernel) ?_
    repeat (first | refine stepA ?_ | intro _)
    (first | refine retA ?_ | refine retB ?_)
    refine ⟨_, ⟨rfl, bf, rfl⟩, ?_⟩
    show Sub (flK bf kind thing 1 :: flB r mb (count + 1) :: (mb, mapB ((setG L pid (x.v.set j (some ⟨bf, 0, none⟩))).map GE.kv) c) :: blkG rowK (setG L pid (x.v.set j (some ⟨bf, 0, none⟩)))) _
    rw [setG_kv]
    refine Sub.back (hset (x.v.set j (some ⟨bf, 0, none⟩))) ?_
    simp only [List.cons_append, List.nil_append]
    exact subT
theorem ficlose_spec (pid kind thing : Int) (h1 : 1 ≤ pid) (hc : 1 ≤ count ∧ count ≤ 1000) {x : RowE} (hx : findG L pid = some x) (j : Nat) (hj : j < 8) (fds : List (Option Addr)) (hl : fds.length = 8) (fb : Nat) (ha : fds[j]? = some (some ⟨fb, 0, none⟩)) :
    Spec Tryz.prog 125 [ptrB r, .int .i64 pid, .int .i64 (j : Int)] [flK fb kind thing 1, flB r mb count, rmB mb L c, rowK x.b fds] fun v H' => v = .tuple #[.agg #[.int .i64 kind, .int .i64 thing], .bool true, .int .i64 0] ∧ H' = [flB r mb (count - 1), rmB mb L c, rowK x.b (fds.set j none)] := by
  refine Spec_body Tryz.func125 rfl Tryz.ntmps125 rfl (fun w0 => ?_)
  repeat (first | refine stepA ?_ | intro _)
  rename_i b6
  refine callA ?_; refine ⟨_, _, fifind_spec r mb count pid h1 hx j hj fds ha, _, cutA, ?_⟩
  rintro v H' ⟨rfl, rfl⟩
  simp only [List.cons_append, List.nil_append]
  repeat (first | refine stepA ?_ | intro _)
  (first | (apply L_P; (· exact rfl); (· exact rfl)) | (apply QL_P; (· exact rfl))); (· (apply P_lookup; (· exact evA); (· exact evA); (· exact pullA)))
  rw [getL_g, hx]
  simp only [Option.map_some, Option.getD_some]
  repeat (first | refine stepA ?_ | intro _)
  apply L_store1; (· exact evA); (· exact rfl); (· exact rfl); (· exact rfl); (· exact repA); (· exact List.map_set.symm); (· rw [List.length_map, hl]; exact hj)
  repeat (first | refine stepA ?_ | intro _)
  refine W_any [flK fb kind thing 0] [] rfl ?_
  refine AS_at 0 (by decide +kernel) ?_; refine takeA ?_
  refine AS_at 1 (by decide +kernel) ?_; refine takeA ?_
  refine AS_at 2 (by decide +kernel) ?_; refine takeA ?_
  refine AS_at 3 (by decide +kernel) ?_; refine takeA ?_
  refine AS_at 4 (by decide +kernel) ?_; refine takeA ?_
  refine AS_at 5 (by decide +kernel) ?_; refine takeA ?_
  refine AS_at 6 (by decide +kernel) ?_; refine takeA ?_
  refine AS_at 7 (by decide +kernel) ?_; refine takeA ?_
  refine AS_at 8 (by decide +kernel) ?_; refine takeA ?_
  refine AS_one 9 rfl (by decide +kernel) rfl ?_
  refine stepA ?_
  refine L_nil ?_; refine ⟨rfl, (by first | exact KeepsH.brk (by decide +kernel) | exact KeepsH.sub subA | exact KeepsH.sub subT), ?_⟩
  refine AS_at 10 (by decide +kernel) ?_; refine takeA ?_
  refine AS_at 11 (by decide +kernel) ?_; refine takeA ?_
  refine AS_done (by decide +kernel) ?_
  repeat (first | refine stepA ?_ | intro _)
  (first | refine retA ?_ | refine retB ?_); exact ⟨_, ⟨rfl, rfl⟩, subA⟩
end
end Go.Proofs.YtcpfmjlceoiofaaGreatDoor

/-
  Descriptors: Drop of two.
-/
namespace Go.Proofs.YtcpfmjlceoiofaaGreatDoor
open Go.RowKit
attribute [local irreducible] W L QL PureOp thenQ blockQ retQ Spec IterOk YSpec roundQ scopeQ noGoQ
attribute [local irreducible] AS ASi IterOkC retD retE
set_option maxHeartbeats 12800000
set_option maxRecDepth 4000
/-- a row of two files, of which the first k are closed -/
def rowD (a0 a1 : Nat) : Nat → List (Option Addr)
  | 0 => [some ⟨a0, 0, none⟩, some ⟨a1, 0, none⟩, none, none, none, none, none, none]
  | 1 => [none, some ⟨a1, 0, none⟩, none, none, none, none, none, none]
  | _ + 2 => noneR
theorem rowD_len (a0 a1 : Nat) : ∀ k, (rowD a0 a1 k).length = 8
  | 0 => rfl
  | 1 => rfl
  | _ + 2 => rfl
abbrev oO := Own 208 2
abbrev ouB (b : Nat) (a : Option Addr) (n cap : Nat) : Nat × Blk := (b, .cells [.slice a n cap] 372)
abbrev opC (k0 t0 : Int) : List Value := [.int .i64 k0, .int .i64 t0]
abbrev fsB (b r : Nat) : Nat × Blk := (b, .cells [ptrB r] 60)
/-- what holds behind k rounds -/
def dropS (r mb : Nat) (count : Int) (L : List RowE) (c : Nat) (br xb b2 b3 b5 : Nat) (pid : Int) (f0 f1 : Nat) (k0 t0 k1 t1 : Int) (T : Hp) : Nat → Hp → Prop
  | 0, Hc => Hc = rpB br xb :: rowK xb (rowD f0 f1 0) :: ouB b5 none 0 0 :: fsB b2 r :: inK b3 pid :: flB r mb count :: rmB mb L c :: flK f0 k0 t0 1 :: flK f1 k1 t1 1 :: T
  | 1, Hc => ∃ a cap Hs, oO a 1 cap (opC k0 t0) Hs ∧ Hc = rpB br xb :: rowK xb (rowD f0 f1 1) :: ouB b5 a 1 cap :: fsB b2 r :: inK b3 pid :: flB r mb (count - 1) :: rmB mb L c :: flK f1 k1 t1 1 :: (Hs ++ T)
  | _ + 2, Hc => ∃ a cap Hs, oO a 2 cap (opC k0 t0 ++ opC k1 t1) Hs ∧ Hc = rpB br xb :: rowK xb noneR :: ouB b5 a 2 cap :: fsB b2 r :: inK b3 pid :: flB r mb (count - 1 - 1) :: rmB mb L c :: (Hs ++ T)
section
variable (r mb : Nat) (count : Int) {L : List RowE} {c : Nat}
theorem fidrop_two (h : WfG L c) (pid : Int) (h1 : 1 ≤ pid) (hc : 2 ≤ count ∧ count ≤ 32) {x : RowE} (hx : findG L pid = some x) (f0 f1 : Nat) (hv : x.v = rowD f0 f1 0) (k0 t0 k1 t1 : Int) :
    Spec Tryz.prog 209 [ptrB r, .int .i64 pid] (flK f0 k0 t0 1 :: flK f1 k1 t1 1 :: fiH r mb count L c) fun v H' => ∃ a cap Hs, v = .slice a 2 cap ∧ oO a 2 cap (opC k0 t0 ++ opC k1 t1) Hs ∧ H' = flB r mb (count - 1 - 1) :: rmB mb (delG L pid) c :: (blkG rowK (delG L pid) ++ Hs) := by
  obtain ⟨T, hT, -, hdel⟩ := blkG_at rowK hx
  rw [hv] at hT
  refine Spec_body Tryz.func209 rfl Tryz.ntmps209 rfl (fun w0 => ?_)
  repeat (first | refine stepA ?_ | intro _)
  rename_i b2 b3 g
  have hck := ficheck_spec r g 1 [pid] (by simp)
  rw [show ([pid].all fun x => decide (1 ≤ x)) = true by simp [h1]] at hck
  simp only [ivs, List.map_cons, List.map_nil, List.length_cons, List.length_nil, Nat.zero_add, Nat.reduceAdd, if_true] at hck
  refine callA ?_; refine ⟨_, _, hck, _, cutA, ?_⟩
  rintro v H' ⟨rfl, rfl⟩
  simp only [List.cons_append, List.nil_append]
  repeat (first | refine stepA ?_ | intro _)
  rename_i b5
  refine callA ?_; refine ⟨_, _, firow_spec r mb count L c pid, _, cutA, ?_⟩
  rintro v H' (⟨x2, hx2, rfl, rfl⟩ | ⟨hx2, -⟩)
  rotate_left
  · rw [hx] at hx2; cases hx2
  obtain rfl : x = x2 := Option.some.inj (hx.symm.trans hx2)
  simp only [List.cons_append, List.nil_append]
  (first | refine W_tail hT ?_ | refine L_tail hT ?_)
  simp only [List.cons_append, List.nil_append]
  repeat (first | refine stepA ?_ | intro _)
  refine callA ?_; refine ⟨_, _, each_spec x.b, _, cutA, ?_⟩
  rintro v H' ⟨br, rfl, rfl⟩
  simp only [List.cons_append, List.nil_append]
  repeat (first | refine stepA ?_ | intro _)
  have inst : FnOk Tryz.prog 312 := inferInstance
  refine W_rangeC rfl (ev_of rfl (by with_reducible rfl)) inst (each_iter br x.b (rowD f0 f1) (rowD_len f0 f1)) (fun _ => rfl) (by simp)
    (dropS r mb count L c br x.b b2 b3 b5 pid f0 f1 k0 t0 k1 t1 T) (fun k => dropS r mb count L c br x.b b2 b3 b5 pid f0 f1 k0 t0 k1 t1 T (k + 1)) (fun _ _ => False)
    (fun u v => ⟨?_, ?_, fun k H h => h⟩)
    ⟨_, rfl, subT⟩ ?_ ?_ ?_
  · rintro (_ | _ | k) H ⟨Hc, hI, rfl⟩
    · cases hI
      exact ⟨_, .cons (.there (.there .here)) (.cons (.there (.there .here)) .nil)⟩
    · obtain ⟨a, cap, Hs, how, rfl⟩ := hI
      exact ⟨_, .cons (.there (.there .here)) (.cons (.there (.there .here)) .nil)⟩
    · obtain ⟨a, cap, Hs, how, rfl⟩ := hI
      exact ⟨_, .cons (.there (.there .here)) (.cons (.there (.there .here)) .nil)⟩
  · rintro (_ | _ | k) H hk hn ⟨Hc, hI, rfl⟩
    · cases hn
    · cases hn
    · exact ⟨Hc, hI, rfl⟩
  · rintro y (_ | _ | k) Hc w1 hI ⟨hk, hn⟩
    · cases hI
      repeat (first | refine stepA ?_ | intro _)
      refine ⟨rfl, fun w2 => ?_⟩
      repeat (first | refine stepA ?_ | intro _)
      refine callA ?_; refine ⟨_, _, ficlose_spec r mb count pid k0 t0 h1 ⟨by omega, by omega⟩ hx 0 (by omega) (rowD f0 f1 0) rfl f0 rfl, _, cutA, ?_⟩
      rintro v H' ⟨rfl, rfl⟩
      simp only [List.cons_append, List.nil_append]
      repeat (first | refine stepA ?_ | intro _)
      apply L_buildSlOne
      · exact rfl
      · exact evA
      · exact rfl
      · exact rfl
      · decide
      intro gb
      apply L_append
      · exact rfl
      · exact evA
      · exact evA
      · exact Own.nil
      · exact List.Perm.refl _
      · exact Lies.cells (k := 2) (news := opC k0 t0) pullA rfl
      · rfl
      · simp [Value.oneCell']
      · omega
      · simp only [maxLen]; omega
      · omega
      · rfl
      rintro g2 cap' ys h1' h2' h3'
      repeat (first | refine stepA ?_ | intro _)
      exact roundQ_n (Hc := rpB br x.b :: rowK x.b (rowD f0 f1 1) :: ouB b5 (some ⟨g2, 0, none⟩) 1 cap' :: fsB b2 r :: inK b3 pid :: flB r mb (count - 1) :: rmB mb L c :: flK f1 k1 t1 1 :: ([(g2, .cells (opC k0 t0 ++ ys) 208)] ++ T)) ⟨_, _, _, Own.blk rfl h1' h2' h3', rfl⟩ subT
    · obtain ⟨a, cap, Hs, how, rfl⟩ := hI
      rcases how.inv with ⟨-, h0, -⟩ | ⟨g0, ys0, rfl, rfl, e1, e2, e3, e4⟩
      · exact absurd h0 (by decide)
      simp only [List.cons_append, List.nil_append]
      repeat (first | refine stepA ?_ | intro _)
      refine ⟨rfl, fun w2 => ?_⟩
      repeat (first | refine stepA ?_ | intro _)
      refine callA ?_; refine ⟨_, _, ficlose_spec r mb (count - 1) pid k1 t1 h1 ⟨by omega, by omega⟩ hx 1 (by omega) (rowD f0 f1 1) rfl f1 rfl, _, cutA, ?_⟩
      rintro v H' ⟨rfl, rfl⟩
      simp only [List.cons_append, List.nil_append]
      repeat (first | refine stepA ?_ | intro _)
      apply L_buildSlOne
      · exact rfl
      · exact evA
      · exact rfl
      · exact rfl
      · decide
      intro gb
      apply L_append
      · exact rfl
      · exact evA
      · exact evA
      · exact how
      · exact Pull.perm pullA
      · exact Lies.cells (k := 2) (news := opC k1 t1) pullA rfl
      · rfl
      · simp [Value.oneCell']
      · omega
      · simp only [maxLen]; omega
      · omega
      · rfl
      rintro g2 cap' ys h1' h2' h3'
      repeat (first | refine stepA ?_ | intro _)
      exact roundQ_n (Hc := rpB br x.b :: rowK x.b noneR :: ouB b5 (some ⟨g2, 0, none⟩) 2 cap' :: fsB b2 r :: inK b3 pid :: flB r mb (count - 1 - 1) :: rmB mb L c :: ([(g2, .cells (opC k0 t0 ++ opC k1 t1 ++ ys) 208)] ++ T)) ⟨_, _, _, Own.blk rfl h1' h2' h3', rfl⟩ subT
    · exact absurd (none_at hk) hn
  · rintro D k Hc rfl ⟨a, cap, Hs, how, rfl⟩
    have hdel2 : (blkG rowK (delG L pid) ++ Hs).Perm (Hs ++ T) := (List.Perm.append_right Hs hdel).trans List.perm_append_comm
    repeat (first | refine stepA ?_ | intro _)
    refine W_any [flB r mb (count - 1 - 1), fsB b2 r, inK b3 pid] [5] rfl ?_
    refine AS_at 0 (by decide +kernel) ?_; refine takeA ?_
    refine AS_at 1 (by decide +kernel) ?_; refine takeA ?_
    refine AS_at 2 (by decide +kernel) ?_; refine takeA ?_
    refine AS_at 3 (by decide +kernel) ?_; refine takeA ?_
    refine AS_at 4 (by decide +kernel) ?_; refine takeA ?_
    refine AS_one 5 rfl (by decide +kernel) rfl ?_
    refine L_delete0 evA evA repA ?_
    refine L_nil ?_; refine ⟨rfl, (by first | exact KeepsH.brk (by decide +kernel) | exact KeepsH.sub subA | exact KeepsH.sub subT), ?_⟩
    refine AS_done (by decide +kernel) ?_
    repeat (first | refine stepA ?_ | intro _)
    (first | refine retA ?_ | refine retB ?_)
    refine ⟨_, ⟨a, cap, Hs, rfl, how, rfl⟩, ?_⟩
    show Sub (flB r mb (count - 1 - 1) :: (mb, mapB ((delG L pid).map GE.kv) c) :: (blkG rowK (delG L pid) ++ Hs)) _
    rw [delG_kv]
    exact Sub.via (by repeat (first | exact hdel2 | apply List.Perm.cons)) subT
  · rintro D cd Hc h
    exact h.elim
end
end Go.Proofs.YtcpfmjlceoiofaaGreatDoor

/-
  The kernel: pipe; closes of a pipe's two ends.
-/
namespace Go.Proofs.YtcpfmjlceoiofaaGreatDoor
open Go.RowKit
attribute [local irreducible] W L QL PureOp thenQ blockQ retQ Spec IterOk YSpec roundQ scopeQ noGoQ
attribute [local irreducible] AS ASi IterOkC retD retE
set_option maxHeartbeats 12800000
set_option maxRecDepth 8000
theorem tkXs_app (T : List (GE TK)) (A E : Hp) : (tkXs T (A ++ E)).Perm (A ++ tkXs T E) := by
  simp only [tkXs]
  rw [← List.append_assoc, ← List.append_assoc]
  exact List.Perm.append_right _ List.perm_append_comm
theorem findG_of_mem {α : Type} : ∀ {L : List (GE α)} {y : GE α}, (keysG L).Nodup → y ∈ L → findG L y.k = some y
  | [], _, _, h => by cases h
  | x :: L, y, hn, h => by
    have hn2 : x.k ∉ keysG L ∧ (keysG L).Nodup := by simpa [keysG] using hn
    unfold findG
    rcases List.mem_cons.1 h with rfl | h
    · rw [if_pos rfl]
    · have : y.k ≠ x.k := fun e => hn2.1 (by rw [← e]; exact List.mem_map.2 ⟨y, h, rfl⟩)
      rw [if_neg this]
      exact findG_of_mem hn2.2 h
/-- a kernel is right, whatever files there are -/
structure WfJ (σ : KS) : Prop where
  M : WfM σ.M
  L : WfP σ.L σ.last σ.c
  R : WfG σ.R σ.rc
  T : WfG σ.T σ.tc
  Tw : ∀ x ∈ σ.T, WfT x.v
  keys : ∀ k, (findP σ.L k).isSome = (findG σ.T k).isSome
  Rk : ∀ x ∈ σ.R, x.k ≤ σ.last
theorem WfK.j {σ : KS} (h : WfK σ) : WfJ σ := ⟨h.M, h.L, h.R, h.T, h.Tw, h.keys, h.Rk⟩
/-- what a kernel holds of one pipe that a process has opened -/
abbrev pipeE (pi : Nat) (q : Int) (Z : List Value) (pb rb f0 f1 : Nat) : Hp := [slK pi q (some ⟨pb, 0, none⟩) true Z, pqB pb rb 1 1, rgB rb, flK f0 1 (8 * q) 1, flK f1 2 (8 * q) 1]
/-- a process has the two ends of a pipe, and nobody has anything else -/
structure PipeAt (σ : KS) (pid : Int) (q : Int) (Z : List Value) (E0 : Hp) (pb rb f0 f1 : Nat) : Prop where
  row : ∃ x, findG σ.R pid = some x ∧ x.v = rowD f0 f1 0
  rest : ∀ k z, k ≠ pid → findG σ.R k = some z → z.v = noneR
  E : σ.E = pipeE σ.pi q Z pb rb f0 f1 ++ E0
  fc : σ.fc = 2
section
variable (σ : KS)
abbrev pipeK (σ : KS) (R' : List RowE) (q : Int) (Z : List Value) (E0 : Hp) (pb rb f0 f1 : Nat) : KS := { σ with R := R', fc := σ.fc + 1 + 1, E := pipeE σ.pi q Z pb rb f0 f1 ++ E0 }
theorem kpipe_spec (hw : WfK σ) (wb : Nat) (tp : Value) (uid gid pid : Int) (x : CallV) (h1 : 1 ≤ pid ∧ pid ≤ σ.last) {q : Int} (hq : 0 ≤ q ∧ q ≤ 4095) {Z : List Value} {E0 : Hp} (hE : σ.E = slK σ.pi q none false Z :: E0) (hfc : σ.fc = 0) (hrow : (findG σ.R pid).isSome = true) :
    Spec Tryz.prog 59 [ptrB wb] (wkK wb σ.k tp pid uid gid x :: kH σ) fun v H' => v = .tuple #[RS.val ⟨0, 0, 1, [], false⟩, .nilIface] ∧
      ∃ R' pb rb f0 f1, WfJ (pipeK σ R' q Z E0 pb rb f0 f1) ∧ PipeAt (pipeK σ R' q Z E0 pb rb f0 f1) pid q Z E0 pb rb f0 f1 ∧ H' = wkK wb σ.k tp pid uid gid x :: kH (pipeK σ R' q Z E0 pb rb f0 f1) := by
  obtain ⟨x0, hx0⟩ := Option.isSome_iff_exists.1 hrow
  have hv0 := hw.Rn x0 (findG_mem hx0)
  obtain ⟨Y, hY⟩ : ∃ Y, Y = prB σ.L ++ (blkG tkB σ.T ++ tkXs σ.T E0) := ⟨_, rfl⟩
  have happ := tkXs_app σ.T [slK σ.pi q none false Z] E0
  rw [List.cons_append, List.nil_append, ← hE] at happ
  have pZ : (kZ σ.L σ.R σ.T σ.E).Perm (slK σ.pi q none false Z :: (blkG rowK σ.R ++ Y)) := by
    rw [hY]
    classical
    refine List.perm_iff_count.2 fun x => ?_
    have q1 := happ.count_eq x
    simp only [List.count_append, List.count_cons, List.count_nil, Nat.add_zero, Nat.zero_add] at q1 ⊢
    rw [q1]
    ac_rfl
  refine Spec_body Tryz.func59 rfl Tryz.ntmps59 rfl (fun w0 => ?_)
  try simp only [List.cons_append, List.nil_append]
  refine W_tail (T := kZ σ.L σ.R σ.T σ.E) pZ ?_
  simp only [List.cons_append, List.nil_append]
  repeat (first | refine stepA ?_ | intro _)
  rename_i b2
  refine W_any [knB σ, wkK wb σ.k tp pid uid gid x] [] rfl ?_
  refine AS_at 0 (by decide +kernel) ?_; refine takeA ?_
  refine AS_at 1 (by decide +kernel) ?_; refine takeA ?_
  refine AS_at 2 (by decide +kernel) ?_; refine takeA ?_
  refine AS_at 3 (by decide +kernel) ?_; refine takeA ?_
  refine AS_at 4 (by decide +kernel) ?_; refine takeA ?_
  refine AS_at 5 (by decide +kernel) ?_; refine takeA ?_
  refine AS_at 6 (by decide +kernel) ?_; refine takeA ?_
  refine AS_one 7 rfl (by decide +kernel) rfl ?_
  refine callA ?_; refine ⟨_, _, pinew_spec, _, cutA, ?_⟩
  rintro v H' ⟨pb, rb, rfl, rfl⟩
  simp only [List.cons_append, List.nil_append]
  refine L_nil ?_; refine ⟨rfl, (by first | exact KeepsH.brk (by decide +kernel) | exact KeepsH.sub subA | exact KeepsH.sub subT), ?_⟩
  refine AS_one 8 rfl (by decide +kernel) rfl ?_
  refine callA ?_; refine ⟨_, _, sladd_spec σ.pi q Z hq (some ⟨pb, 0, none⟩), _, cutA, ?_⟩
  rintro v H' ⟨rfl, rfl⟩
  simp only [List.cons_append, List.nil_append]
  refine L_nil ?_; refine ⟨rfl, (by first | exact KeepsH.brk (by decide +kernel) | exact KeepsH.sub subA | exact KeepsH.sub subT), ?_⟩
  refine AS_at 9 (by decide +kernel) ?_; refine takeA ?_
  refine AS_at 10 (by decide +kernel) ?_; refine takeA ?_
  refine AS_at 11 (by decide +kernel) ?_; refine takeA ?_
  refine AS_at 12 (by decide +kernel) ?_; refine takeA ?_
  refine AS_at 13 (by decide +kernel) ?_; refine takeA ?_
  refine AS_done (by decide +kernel) ?_
  repeat (first | refine stepA ?_ | intro _)
  have hr0 : RowAt x0.v 0 := by rw [hv0]; exact rowAt_none
  have ho1 := (fiopen_spec σ.fr σ.fm σ.fc hw.R pid 1 (8 * q) h1.1 (.inl rfl) ⟨by omega, by omega⟩ ⟨by omega, by omega⟩ hx0 0 (by omega) hr0).frame Y
  simp only [List.cons_append, List.nil_append, List.append_assoc] at ho1
  refine W_any [knB σ, wkK wb σ.k tp pid uid gid x] [] rfl ?_
  refine AS_at 0 (by decide +kernel) ?_; refine takeA ?_
  refine AS_at 1 (by decide +kernel) ?_; refine takeA ?_
  refine AS_at 2 (by decide +kernel) ?_; refine takeA ?_
  refine AS_at 3 (by decide +kernel) ?_; refine takeA ?_
  refine AS_at 4 (by decide +kernel) ?_; refine takeA ?_
  refine AS_at 5 (by decide +kernel) ?_; refine takeA ?_
  refine AS_at 6 (by decide +kernel) ?_; refine takeA ?_
  refine AS_at 7 (by decide +kernel) ?_; refine takeA ?_
  refine AS_at 8 (by decide +kernel) ?_; refine takeA ?_
  refine AS_at 9 (by decide +kernel) ?_; refine takeA ?_
  refine AS_at 10 (by decide +kernel) ?_; refine takeA ?_
  refine AS_at 11 (by decide +kernel) ?_; refine takeA ?_
  refine AS_at 12 (by decide +kernel) ?_; refine takeA ?_
  refine AS_one 13 rfl (by decide +kernel) rfl ?_
  refine callT ?_; refine ⟨_, _, ho1, _, cutT, ?_⟩
  rintro v H' ⟨H1, ⟨rfl, f0, rfl⟩, rfl⟩
  simp only [List.cons_append, List.nil_append, List.append_assoc]
  refine L_nil ?_; refine ⟨rfl, (by first | exact KeepsH.brk (by decide +kernel) | exact KeepsH.sub subA | exact KeepsH.sub subT), ?_⟩
  refine AS_at 14 (by decide +kernel) ?_; refine takeA ?_
  refine AS_at 15 (by decide +kernel) ?_; refine takeA ?_
  refine AS_at 16 (by decide +kernel) ?_; refine takeA ?_
  refine AS_at 17 (by decide +kernel) ?_; refine takeA ?_
  refine AS_at 18 (by decide +kernel) ?_; refine takeA ?_
  refine AS_done (by decide +kernel) ?_
  repeat (first | refine stepA ?_ | intro _)
  have hx1 : findG (setG σ.R pid (x0.v.set 0 (some ⟨f0, 0, none⟩))) pid = some { x0 with v := x0.v.set 0 (some ⟨f0, 0, none⟩) } := by rw [findG_set hx0, if_pos rfl]
  have ho2 := (fiopen_spec σ.fr σ.fm (σ.fc + 1) (hw.R.set pid (x0.v.set 0 (some ⟨f0, 0, none⟩))) pid 2 (8 * q) h1.1 (.inr rfl) ⟨by omega, by omega⟩ ⟨by omega, by omega⟩ hx1 1 (by omega) (hr0.set (by omega) _)).frame Y
  simp only [List.cons_append, List.nil_append, List.append_assoc] at ho2
  refine W_any [knB σ, wkK wb σ.k tp pid uid gid x] [] rfl ?_
  refine AS_at 0 (by decide +kernel) ?_; refine takeA ?_
  refine AS_at 1 (by decide +kernel) ?_; refine takeA ?_
  refine AS_at 2 (by decide +kernel) ?_; refine takeA ?_
  refine AS_at 3 (by decide +kernel) ?_; refine takeA ?_
  refine AS_at 4 (by decide +kernel) ?_; refine takeA ?_
  refine AS_at 5 (by decide +kernel) ?_; refine takeA ?_
  refine AS_at 6 (by decide +kernel) ?_; refine takeA ?_
  refine AS_at 7 (by decide +kernel) ?_; refine takeA ?_
  refine AS_at 8 (by decide +kernel) ?_; refine takeA ?_
  refine AS_at 9 (by decide +kernel) ?_; refine takeA ?_
  refine AS_at 10 (by decide +kernel) ?_; refine takeA ?_
  refine AS_at 11 (by decide +kernel) ?_; refine takeA ?_
  refine AS_at 12 (by decide +kernel) ?_; refine takeA ?_
  refine AS_one 13 rfl (by decide +kernel) rfl ?_
  refine callT ?_; refine ⟨_, _, ho2, _, cutT, ?_⟩
  rintro v H' ⟨H1, ⟨rfl, f1, rfl⟩, rfl⟩
  simp only [List.cons_append, List.nil_append, List.append_assoc]
  refine L_nil ?_; refine ⟨rfl, (by first | exact KeepsH.brk (by decide +kernel) | exact KeepsH.sub subA | exact KeepsH.sub subT), ?_⟩
  refine AS_at 14 (by decide +kernel) ?_; refine takeA ?_
  refine AS_at 15 (by decide +kernel) ?_; refine takeA ?_
  refine AS_at 16 (by decide +kernel) ?_; refine takeA ?_
  refine AS_at 17 (by decide +kernel) ?_; refine takeA ?_
  refine AS_at 18 (by decide +kernel) ?_; refine takeA ?_
  refine AS_done (by decide +kernel) ?_
  repeat (first | refine stepA ?_ | intro _)
  have e0 : (x0.v.set 0 (some ⟨f0, 0, none⟩)).set 1 (some ⟨f1, 0, none⟩) = rowD f0 f1 0 := by rw [hv0]; rfl
  obtain ⟨R', hR'⟩ : ∃ R', R' = setG (setG σ.R pid (x0.v.set 0 (some ⟨f0, 0, none⟩))) pid ((x0.v.set 0 (some ⟨f0, 0, none⟩)).set 1 (some ⟨f1, 0, none⟩)) := ⟨_, rfl⟩
  have hfR : ∀ k, findG R' k = if k = pid then some { x0 with v := rowD f0 f1 0 } else findG σ.R k := by
    intro k
    rw [hR', findG_set hx1, e0]
    split
    · rfl
    · rename_i hk
      rw [findG_set hx0, if_neg hk]
  have hwR : WfG R' σ.rc := by rw [hR']; exact (hw.R.set pid _).set pid _
  (first | refine retA ?_ | refine retB ?_)
  refine ⟨_, ⟨rfl, R', pb, rb, f0, f1, ⟨hw.M, hw.L, hwR, hw.T, hw.Tw, hw.keys, ?_⟩, ⟨⟨_, (hfR pid).trans (if_pos rfl), rfl⟩, ?_, rfl, by show σ.fc + 1 + 1 = 2; omega⟩, rfl⟩, ?_⟩
  · intro y hy
    have hf := findG_of_mem hwR.nd hy
    rw [hfR] at hf
    by_cases e : y.k = pid
    · rw [e]; exact h1.2
    · rw [if_neg e] at hf
      have := hw.Rk _ (findG_mem hf)
      exact this
  · intro k z hk hz
    have hz : findG R' k = some z := hz
    rw [hfR, if_neg hk] at hz
    exact hw.Rn z (findG_mem hz)
  · have happ2 := tkXs_app σ.T (pipeE σ.pi q Z pb rb f0 f1) E0
    have pF : ((wkK wb σ.k tp pid uid gid x :: knB σ :: tbB σ.pr σ.mb σ.last :: kvB σ.mb σ.L σ.c :: flB σ.fr σ.fm (σ.fc + 1 + 1) :: rmB σ.fm R' σ.rc :: tmB σ.tm σ.T σ.tc :: (memH σ.m σ.M ++ kZ σ.L R' σ.T (pipeE σ.pi q Z pb rb f0 f1 ++ E0))) ++ [(b2, Blk.cells (RS.cells ⟨0, 0, 1, [], false⟩) 31)]).Perm
        (slK σ.pi q (some ⟨pb, 0, none⟩) true Z :: pqB pb rb 1 1 :: rgB rb :: (b2, .cells (RS.cells ⟨0, 0, 1, [], false⟩) 31) :: wkK wb σ.k tp pid uid gid x :: knB σ :: tbB σ.pr σ.mb σ.last :: kvB σ.mb σ.L σ.c :: tmB σ.tm σ.T σ.tc :: (memH σ.m σ.M ++ (flK f0 1 (8 * q) 1 :: flK f1 2 (8 * q) 1 :: flB σ.fr σ.fm (σ.fc + 1 + 1) :: rmB σ.fm R' σ.rc :: (blkG rowK R' ++ Y)))) := by
      rw [hY]
      classical
      refine List.perm_iff_count.2 fun x => ?_
      have q1 := happ2.count_eq x
      simp only [List.count_append, List.count_cons, List.count_nil, Nat.add_zero, Nat.zero_add] at q1 ⊢
      rw [q1]
      ac_rfl
    subst hR'
    exact Sub.ofPermR pF
end
end Go.Proofs.YtcpfmjlceoiofaaGreatDoor
