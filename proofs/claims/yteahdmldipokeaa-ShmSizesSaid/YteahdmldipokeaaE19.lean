/-
  The walk's own small calculus, nineteenth part: what a function computes, beside other blocks.
-/
import Derived.Test.YteahdmldipokeaaE12
namespace Go.Proofs.Yteahdmldipokeaa
open Go.RowKit
theorem Spec.frame {P : Program} {f : FuncId} {args : List Value} {H : Hp} {R : Value → Hp → Prop} (h : Spec P f args H R) (F : Hp) : Spec P f args (H ++ F) (fun v H' => ∃ H1, R v H1 ∧ H' = H1 ++ F) := by
  unfold Spec at h ⊢
  intro w hw
  have hA := hw.left
  have hF := hw.right
  refine (h w hA).mono ?_
  rintro e w' ⟨v, H', rfl, h1, h2, h3, h4⟩
  refine ⟨v, H' ++ F, rfl, ⟨H', h1, rfl⟩, ?_, ⟨h3.os, h3.tape, h3.output, h3.size, fun k hk hn => h3.block k hk (fun q => hn (by rw [keys_append]; exact List.mem_append_left _ q))⟩, fun b hb => ?_⟩
  · have hr : Has F w' := ⟨hF.nd, fun b k hm => by
      rw [h3.block b (hF.lt hm) (fun q => hw.apart q (mem_keys hm))]
      exact hF.rd b k hm⟩
    refine h2.app hr fun b ha hb => ?_
    rcases h4 b ha with q | q
    · exact hw.apart q hb
    · exact absurd (hF.ltk hb) (by omega)
  · rw [keys_append] at hb ⊢
    rcases List.mem_append.1 hb with hb | hb
    · exact (h4 b hb).imp (fun q => List.mem_append_left _ q) id
    · exact .inl (List.mem_append_right _ hb)
theorem Spec.permR {P : Program} {f : FuncId} {args : List Value} {H : Hp} {R R' : Value → Hp → Prop} (h : Spec P f args H R) (hr : ∀ v H1, R v H1 → ∃ H', R' v H' ∧ H1.Perm H') : Spec P f args H R' := by
  unfold Spec at h ⊢
  intro w hw
  refine (h w hw).mono ?_
  rintro e w' ⟨v, H1, rfl, h1, h2, h3, h4⟩
  obtain ⟨H', h5, hp⟩ := hr v H1 h1
  exact ⟨v, H', rfl, h5, h2.perm hp, h3, fun b hb => h4 b ((keys_perm hp).2 hb)⟩
theorem Spec.frameQ {P : Program} {f : FuncId} {args : List Value} {H H2 : Hp} {Q : Value → Prop} (h : Spec P f args H fun v H' => Q v ∧ H' = H2) (F : Hp) : Spec P f args (H ++ F) fun v H' => Q v ∧ H' = H2 ++ F :=
  (h.frame F).mono fun v H' ⟨H1, ⟨h1, h2⟩, h3⟩ => ⟨h1, by rw [h3, h2]⟩
theorem Spec.permQ {P : Program} {f : FuncId} {args : List Value} {H H2 H3 : Hp} {Q : Value → Prop} (h : Spec P f args H fun v H' => Q v ∧ H' = H2) (p : H2.Perm H3) : Spec P f args H fun v H' => Q v ∧ H' = H3 :=
  h.permR fun v H1 ⟨h1, h2⟩ => ⟨H3, ⟨h1, rfl⟩, by rw [h2]; exact p⟩
section rules
variable {X : Cx} {Q : PostT} {l : St} {ds : List Deferred} {H : Hp} {ops : Array Oper} {rest : List Oper}
variable {d ty : Nat} {pos : String} {after : Array Edge}
theorem L_makeSl2 {x y : Operand} {t e k by_ n0 n : Nat} {z : List Value} [T : TySl X.P t e k] [B : TyBy X.P e by_] [Z : TyZ X.P e z] (hlt : Nat.blt d X.n = true) (hx : ev l x = some (.int .i64 (n0 : Int))) (hy : ev l y = some (.int .i64 (n : Int)))
    (hb : by_ * n ≤ 281474976710656 ∧ n ≤ 4611686018427387904) (hzk : z.length = k) (hk : 0 < k) (hn0 : n0 ≤ n)
    (h : ∀ b, L X ops rest Q ((d, .slice (some ⟨b, 0, none⟩) n0 n) :: l) ds ((b, .cells (List.replicate n z).flatten e) :: H)) :
    L X ops ({ dst := some d, op := .makeSlice t x y, type := ty, pos, after, guard := none } :: rest) Q l ds H :=
  L_val rfl rfl hlt (fun _ e => by cases e) fun ρ hρ w hw => by
    obtain ⟨u, hz1, hz2⟩ : ∃ u, (zeroValue e).run X.P w = .ok u w ∧ u.cells = z.toArray := by
      have hz := Z.zero
      cases hq : X.P.info? e with
      | none => simp [hq] at hz
      | some i =>
        cases hi : i.zero with
        | none => simp [hq, hi] at hz
        | some u => simp [hq, hi] at hz; exact ⟨u, by simp [zeroValue, typeInfo, hq, hi], hz⟩
    have hti : ∃ i, (typeInfo e).run X.P w = .ok i w ∧ i.bytes = by_ := by
      have hby := B.bytes
      cases hq : X.P.info? e with
      | none => simp [hq] at hby
      | some i => simp [hq] at hby; exact ⟨i, by simp [typeInfo, hq], hby⟩
    obtain ⟨ti, hti, htb⟩ := hti
    have ew : IntKind.i64.wrap (n : Int) = n := wrap_i64 (by omega)
    have ew0 : IntKind.i64.wrap (n0 : Int) = n0 := wrap_i64 (by omega)
    have hbI : (by_ : Int) * (n : Int) ≤ 281474976710656 := by
      rw [← Int.natCast_mul]
      have hb1 := hb.1
      generalize by_ * n = m at hb1
      omega
    have ez : ((Array.range (n * k)).map (z.toArray[· % z.toArray.size]!)) = (List.replicate n z).flatten.toArray := by
      apply Array.ext'
      rw [Array.toList_map, Array.toList_range]
      show List.map (fun x => z.toArray[x % z.toArray.size]!) (List.range (n * k)) = (List.replicate n z).flatten
      have hsz : z.toArray.size = k := by rw [List.size_toArray, hzk]
      rw [hsz]
      clear hb hx hy h ew ew0 hbI hn0
      induction n with
      | zero => simp
      | succ n ih =>
        rw [Nat.succ_mul, List.range_add, List.map_append, ih, List.replicate_succ', List.flatten_append, List.map_map]
        congr 1
        simp only [List.flatten_cons, List.flatten_nil, List.append_nil]
        apply List.ext_getElem
        · simp [hzk]
        · intro i h1 h2
          simp at h1
          have e1 : (n * k + i) % k = i := by rw [Nat.add_comm, Nat.add_mul_mod_self_right, Nat.mod_eq_of_lt h1]
          simp only [List.getElem_map, List.getElem_range, Function.comp_apply, e1]
          rw [getElem!_pos z.toArray i (by simpa using h2)]
          rfl
    have tl : (decide ((n : Int) < 0) || decide ((by_ : Int) * (n : Int) > 2 ^ 48)) = false := by
      have a1 : ¬ ((n : Int) < 0) := by omega
      have a2 : ¬ ((by_ : Int) * (n : Int) > 2 ^ 48) := by
        have e48 : (2 : Int) ^ 48 = 281474976710656 := by decide
        rw [e48]; omega
      simp only [a1, a2, decide_false, Bool.or_self]
    refine ⟨_, _, _, ?_, hw.alloc (.cells (List.replicate n z).flatten e), h _⟩
    simp only [execOp, hρ x _ hx, hρ y _ hy, Instr.makeSlice, Sem.run_bind, run_underlying T.und w, Result.andThen_ok, asInt, asIntOf, Sem.run_pure, hti, htb, ew, ew0, tl]
    have a3 : ¬ ((n0 : Int) < 0) := by omega
    have a4 : ¬ ((n0 : Int) > (n : Int)) := by omega
    simp only [a3, a4, decide_false, Bool.or_self, Bool.false_eq_true, if_false, run_askRoom, Sem.run_bind, Result.andThen_ok, Int.toNat_natCast, T.runSize w]
    by_cases h0 : n * k = 0
    · have hnz : n = 0 := by
        rcases Nat.mul_eq_zero.1 h0 with h | h
        · exact h
        · omega
      subst hnz
      simp only [Nat.zero_mul, if_true, Sem.run_pure, Result.andThen_ok, newRow, Sem.run_bind, run_newObj_alloc, Blk.obj, List.replicate_zero, List.flatten_nil]
      have e0 : (Array.map (fun x => (#[] : Array Value)[x % (#[] : Array Value).size]!) (Array.range 0)) = ([] : List Value).toArray := by simp
      rw [e0]
    · rw [if_neg h0]
      simp only [Sem.run_bind, hz1, hz2, Result.andThen_ok, Sem.run_pure, ez, newRow, run_newObj_alloc]
      rfl

theorem L_makeSl2C {x y : Operand} {t e k by_ n0 n : Nat} {i0 i : Int} {z : List Value} [T : TySl X.P t e k] [B : TyBy X.P e by_] [Z : TyZ X.P e z] (hlt : Nat.blt d X.n = true) (hx : ev l x = some (.int .i64 i0)) (hy : ev l y = some (.int .i64 i))
    (hi0 : i0 = ((n0 : Nat) : Int)) (hi : i = ((n : Nat) : Int)) (hb : by_ * n ≤ 281474976710656 ∧ n ≤ 4611686018427387904) (hzk : z.length = k) (hk : 0 < k) (hn0 : n0 ≤ n)
    (h : ∀ b, L X ops rest Q ((d, .slice (some ⟨b, 0, none⟩) n0 n) :: l) ds ((b, .cells (List.replicate n z).flatten e) :: H)) :
    L X ops ({ dst := some d, op := .makeSlice t x y, type := ty, pos, after, guard := none } :: rest) Q l ds H :=
  L_makeSl2 hlt (by rw [hx, hi0]) (by rw [hy, hi]) hb hzk hk hn0 h
end rules
section cut
variable {X : Cx} {Q : PostT} {l : St} {ds : List Deferred} {H : Hp}
/-- a mark, where a walk is to stop -/
theorem W_at (id : Nat) {os : Array Oper} {d : Bool} {b c : Code} (h : W X (.seq (.seq (.region id os d) b) c) Q l ds H) : W X (.seq (.seq (.region id os d) b) c) Q l ds H := h
theorem W_at1 (id : Nat) {os : Array Oper} {d : Bool} {c : Code} (h : W X (.seq (.region id os d) c) Q l ds H) : W X (.seq (.region id os d) c) Q l ds H := h
theorem W_cut {a b : Code} (Q1 : PostT) (h1 : W X a Q1 l ds H) (h2 : ∀ e l ds H, Q1 e l ds H → thenQ (W X b Q) Q e l ds H) : W X (.seq a b) Q l ds H := W_seq (W_mono h1 h2)
end cut
theorem Sub.ofPermR : ∀ {A R H : Hp}, (A ++ R).Perm H → Sub A H
  | [], _, _, _ => .nil
  | x :: A, R, H, p => by
    obtain ⟨R2, hr⟩ := pull_of_mem (p.mem_iff.1 (List.mem_cons_self))
    exact .cons hr (Sub.ofPermR (R := R) (List.Perm.cons_inv (p.trans hr.perm)))
theorem permA {A B : Hp} (h : A.Perm B := by classical exact List.perm_iff_count.2 fun x => by (simp only [List.count_append, List.count_cons, List.count_nil, Nat.add_zero, Nat.zero_add]; first | done | ac_rfl)) : A.Perm B := h
section tl
variable {X : Cx} {Q : PostT} {l : St} {ds : List Deferred} {H : Hp} {ops : Array Oper} {rest : List Oper}
theorem L_tail {T A T' : Hp} (p : T.Perm T') (k : L X ops rest Q l ds (A ++ T')) (h : Tail H T A := by repeat (first | exact Tail.nil | apply Tail.cons)) : L X ops rest Q l ds H :=
  L_perm (h.perm.trans ((List.Perm.append_right A p).trans List.perm_append_comm)) k
theorem W_tail {c : Code} {T A T' : Hp} (p : T.Perm T') (k : W X c Q l ds (A ++ T')) (h : Tail H T A := by repeat (first | exact Tail.nil | apply Tail.cons)) : W X c Q l ds H :=
  W_perm (h.perm.trans ((List.Perm.append_right A p).trans List.perm_append_comm)) k
theorem Sub.tail {H T A T' : Hp} (h : Tail H T A) (s : Sub T' T) : Sub (A ++ T') H := by
  obtain ⟨R, c⟩ := s.cut
  refine Sub.ofPermR (R := R) ?_
  refine (((h.perm.trans (List.Perm.append_right A c.perm)).trans List.perm_append_comm).trans ?_).symm
  rw [List.append_assoc]
theorem L_tailS {T A T' : Hp} (s : Sub T' T) (k : L X ops rest Q l ds (A ++ T')) (h : Tail H T A := by repeat (first | exact Tail.nil | apply Tail.cons)) : L X ops rest Q l ds H := L_weakh (Sub.tail h s) k
theorem W_tailS {c : Code} {T A T' : Hp} (s : Sub T' T) (k : W X c Q l ds (A ++ T')) (h : Tail H T A := by repeat (first | exact Tail.nil | apply Tail.cons)) : W X c Q l ds H := W_weakh (Sub.tail h s) k
end tl
end Go.Proofs.Yteahdmldipokeaa
